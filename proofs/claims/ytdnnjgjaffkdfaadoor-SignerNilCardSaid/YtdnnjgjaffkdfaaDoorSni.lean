/- The walk of SignerNil. -/
import Derived.Test.YtdnnjgjaffkdfaaDoorSbj
import Derived.Test.YtdnnjgjaffkdfaaDoorXd
import Derived.Test.YtdnnjgjaffkdfaaDoorSne
namespace Go.Proofs.YtdnnjgjaffkdfaaDoor
open Go Go.RowKit Go.Bul Go.Thg Go.Lin
theorem nin_nil0 (w : World) : NIn w none 0 [] := ⟨rfl, fun h => absurd h (by omega)⟩
theorem held_rsg0 {w : World} {o : Oper} {a : Act} (ho : o.op = .build 26 #[] := by rfl) : (execOp a.eval o).run Tryd.prog w = .ok (.value (.agg (sigC 0 ch0 none 0 0))) w := by
  unfold execOp
  simp only [ho, List.map_toArray, List.map_nil, Sem.run_bind, run_rsg0, Result.andThen_ok, Sem.run_pure]
theorem held_pub0 {w : World} {o : Oper} {a : Act} (ho : o.op = .build 30 #[] := by rfl) : (execOp a.eval o).run Tryd.prog w = .ok (.value (.agg (pubC 0 nd0))) w := by
  unfold execOp
  simp only [ho, List.map_toArray, List.map_nil, Sem.run_bind, run_pub0, Result.andThen_ok, Sem.run_pure]
set_option maxRecDepth 20000 in
set_option maxHeartbeats 8000000 in
theorem snil_any (l1 l2 : Int) (x y : Ch) (A1 A2 : Option Addr) (n1 c1 n2 c2 : Nat) (P Q : List Nd) (z : Int) (w : World) (h1 : NIn w A1 n1 P) (h2 : NIn w A2 n2 Q) (hT : Tab w) (hA : Alp w) :
    Calls Tryd.prog 7 #[.agg (sigC l1 x A1 n1 c1), .agg (sigC l2 y A2 n2 c2), .int .i64 z] w fun e w' => e = .returned (.bool true) ∧ Below w.heap.size w w' := by
  have hM := Mem.start [] w
  have HS1 := Lib.hid (sigC_size l1 x A1 n1 c1)
  have HS2 := Lib.hid (sigC_size l2 y A2 n2 c2)
  have HK := Lib.hid (fun w' (hb : Below w.heap.size w w') => known_any w' (hT.keep hb) (hA.keep hb))
  have HF1 := Lib.hid (fun w => few_any l1 x A1 n1 c1 w)
  have HF2 := Lib.hid (fun w => few_any l2 y A2 n2 c2 w)
  have HNS := Lib.hid (fun w => nsign_any nd0 w)
  have HNL := Lib.hid (fun w => nlast_any nd0 w)
  by_cases h20 : n1 ≤ 20
  · rw [decide_eq_true h20] at HF1
    by_cases h21 : n2 ≤ 20
    · rw [decide_eq_true h21] at HF2
      have HKI := Lib.hid (fun w => nskip_any z w)
      have HB := Lib.hid (fun w => lback_any 0 ch0 none 0 0 [] w (nin_nil0 w) (by omega))
      have HSM := Lib.hid (fun B c' w' (hr : NIn w' B 0 []) => rsame_any 0 0 ch0 ch0 B none 0 c' 0 0 [] [] w' hr (nin_nil0 w') (by omega) (by omega))
      simp only [decide_true, and_self] at HSM
      have HO1 := Lib.hid (fun w' (hb : Below w.heap.size w w') => lown_any l1 x A1 n1 c1 P w' (h1.keep hb) (by omega))
      have HO2 := Lib.hid (fun w' (hb : Below w.heap.size w w') => lown_any l2 y A2 n2 c2 Q w' (h2.keep hb) (by omega))
      have HEQ := Lib.hid (fun B c B' c' w' (hr : NIn w' B n1 P) (hr' : NIn w' B' n2 Q) => equal_any l1 l2 x y B B' n1 c n2 c' P Q w' hr hr' (by omega) (by omega))
      have HEQ1 := Lib.hid (fun B c B' c' w' (hr : NIn w' B n1 P) (hr' : NIn w' B' n1 P) => equal_any l1 l1 x x B B' n1 c n1 c' P P w' hr hr' (by omega) (by omega))
      simp only [decide_true, and_self] at HEQ1
      have HSA := Lib.hid (fun w' (hb : Below w.heap.size w w') => rsame_any l1 l2 x y A1 A2 n1 c1 n2 c2 P Q w' (h1.keep hb) (h2.keep hb) (by omega) (by omega))
      generalize decide (l1 = l2 ∧ x = y ∧ P = Q) = b at HEQ HSA
      have qp := eq_pub 0 0 nd0 nd0
      rw [show ((0 : Int) == 0 && decide (nd0 = nd0)) = true by simp] at qp
      generalize sigC l1 x A1 n1 c1 = X1 at HS1 HF1 HO1 HSA ⊢
      generalize sigC l2 y A2 n2 c2 = X2 at HS2 HF2 HO2 HSA ⊢
      clear h1 h2 hT hA h20 h21
      go_enter Tryd.func7, Tryd.ntmps7
      go_upto_region 6 with (first | ((with_reducible refine at_box ?_); first | (refine slb hM ?_ (hty := row_rsg) (hn := HS1.out); clear hM; intro g3 w1 hM) | (refine slb hM ?_ (hty := row_rsg) (hn := HS2.out); clear hM; intro g4 w1 hM)) | ((with_reducible refine (HK.out _ hM.below).mono ?_); rintro e w1 ⟨rfl, hb⟩; replace hM := hM.step hb; clear hb) | ((with_reducible refine (HF1.out _).mono ?_); rintro e w1 ⟨rfl, hb⟩; replace hM := hM.step hb; clear hb) | ((with_reducible refine (HF2.out _).mono ?_); rintro e w1 ⟨rfl, hb⟩; replace hM := hM.step hb; clear hb) | ((first | with_reducible refine at_load ?_ | ((with_reducible refine at_load_g ?_ ?_); (· rfl))); refine sll hM ?_ (hty := row_rsg)) | ((with_reducible refine at_build ?_); refine wpList_build_zero rfl _ (by rfl) _ _ zero_a16 arr_a16 ?_) | ((with_reducible refine at_alloc ?_); (refine slz hM ?_ (hz := zero_sgn); clear hM; intro g9 w1 hM)) | ((with_reducible refine at_store ?_); (refine slw hM ?_ (hs := sigC_size _ _ _ _ _) (h1 := sigC_one _ _ _ _ _) (hty := row_sgn); clear hM; intro wx hM)) | ((with_reducible refine (HNS.out _).mono ?_); rintro e w1 ⟨rfl, hb⟩; replace hM := hM.step hb; clear hb) | ((with_reducible refine (HNL.out _).mono ?_); rintro e w1 ⟨rfl, hb⟩; replace hM := hM.step hb; clear hb))
      obtain ⟨g10, hg10⟩ := hM.name1
      obtain ⟨g8, hg8⟩ := (hM.subL (List.sublist_cons_self _ _)).name1
      obtain ⟨g4, hg4⟩ := (hM.subL (List.Sublist.cons _ (List.sublist_cons_self _ _))).name1
      obtain ⟨g3, hg3⟩ := (hM.subL (List.Sublist.cons _ (List.Sublist.cons _ (List.sublist_cons_self _ _)))).name1
      subst hg10 hg8 hg4 hg3
      refine wp_region_allHM hM (HeldM [⟨g10, 31, 562, sigC 0 ch0 none 0 0⟩, ⟨g8, 31, 562, sigC 0 ch0 none 0 0⟩, ⟨g4, 26, 562, X2⟩, ⟨g3, 26, 562, X1⟩]) (by kernel_rfl) ?_
      clear hM
      intro wd hM
      have hS := HeldM.of (hM.subL (L' := [⟨g10, 31, 562, sigC 0 ch0 none 0 0⟩, ⟨g8, 31, 562, sigC 0 ch0 none 0 0⟩, ⟨g4, 26, 562, X2⟩, ⟨g3, 26, 562, X1⟩]) (List.Sublist.refl _))
      refine wpAllH_takes [0, 2] (by kernel_rfl) (fun _ _ _ _ _ h => h) hS (by kernel_rfl) ?_
      simp only [pickOps, List.filterMap_cons, List.filterMap_nil, List.getElem?_cons_zero, List.getElem?_cons_succ]
      repeat ((with_reducible apply wpHeld_stepG); (· rfl); (· (intro w hSw; first | (go_simp; rfl) | ((first | exact held_rsg0 | exact held_pub0 | (obtain ⟨_, _, _, hM'⟩ := hSw; first | exact yields_load (C := fun _ => True) (sql hM' (hty := row_rsg)) rfl | exact yields_load (C := fun _ => True) (sql hM' (hty := row_sgn)) rfl))))); intro K hK; go_simp; (with_reducible refine hK _ ?_); clear hK K)
      refine wpHeld_nil ?_
      refine wpAllH_one 1 rfl (by kernel_rfl) ?_
      go_wp2_with fail
      refine (HB.out _).mono ?_
      rintro e w1 ⟨B1, c1', rfl, hb⟩
      replace hM := hM.newThing hb
      clear hb hS
      have hS := HeldM.of (hM.subL (L' := [⟨g10, 31, 562, sigC 0 ch0 none 0 0⟩, ⟨g8, 31, 562, sigC 0 ch0 none 0 0⟩, ⟨g4, 26, 562, X2⟩, ⟨g3, 26, 562, X1⟩]) (List.Sublist.refl _))
      go_wp2_with fail
      refine then_normal ⟨hS, ?_⟩
      refine wpAllH_one 3 rfl (by kernel_rfl) ?_
      go_wp2_with fail
      refine (HSM.out _ _ _ (p16T_in (hM.thing _ (List.Mem.head _)))).mono ?_
      rintro e w1 ⟨rfl, hb⟩
      replace hM := hM.step hb
      clear hb hS
      have hS := HeldM.of (hM.subL (L' := [⟨g10, 31, 562, sigC 0 ch0 none 0 0⟩, ⟨g8, 31, 562, sigC 0 ch0 none 0 0⟩, ⟨g4, 26, 562, X2⟩, ⟨g3, 26, 562, X1⟩]) (List.Sublist.refl _))
      go_wp2_with fail
      refine then_normal ⟨hS, ?_⟩
      refine wpAllH_takes [4, 5, 6, 7, 8, 9, 11] (by kernel_rfl) (fun _ _ _ _ _ h => h) hS (by kernel_rfl) ?_
      simp only [pickOps, List.filterMap_cons, List.filterMap_nil, List.getElem?_cons_zero, List.getElem?_cons_succ]
      repeat ((with_reducible apply wpHeld_stepG); (· rfl); (· (intro w hSw; first | (go_simp; rfl) | ((first | exact held_rsg0 | exact held_pub0 | (obtain ⟨_, _, _, hM'⟩ := hSw; first | exact yields_load (C := fun _ => True) (sql hM' (hty := row_rsg)) rfl | exact yields_load (C := fun _ => True) (sql hM' (hty := row_sgn)) rfl))))); intro K hK; go_simp; (with_reducible refine hK _ ?_); clear hK K)
      refine wpHeld_nil ?_
      refine wpAllH_one 10 rfl (by kernel_rfl) ?_
      go_wp2_with fail
      refine (HB.out _).mono ?_
      rintro e w1 ⟨B2, c2', rfl, hb⟩
      replace hM := hM.newThing hb
      clear hb hS
      have hS := HeldM.of (hM.subL (L' := [⟨g10, 31, 562, sigC 0 ch0 none 0 0⟩, ⟨g8, 31, 562, sigC 0 ch0 none 0 0⟩, ⟨g4, 26, 562, X2⟩, ⟨g3, 26, 562, X1⟩]) (List.Sublist.refl _))
      go_wp2_with fail
      refine then_normal ⟨hS, ?_⟩
      refine wpAllH_one 12 rfl (by kernel_rfl) ?_
      go_wp2_with fail
      refine (HSM.out _ _ _ (p16T_in (hM.thing _ (List.Mem.head _)))).mono ?_
      rintro e w1 ⟨rfl, hb⟩
      replace hM := hM.step hb
      clear hb hS
      have hS := HeldM.of (hM.subL (L' := [⟨g10, 31, 562, sigC 0 ch0 none 0 0⟩, ⟨g8, 31, 562, sigC 0 ch0 none 0 0⟩, ⟨g4, 26, 562, X2⟩, ⟨g3, 26, 562, X1⟩]) (List.Sublist.refl _))
      go_wp2_with fail
      refine then_normal ⟨hS, ?_⟩
      refine wpAllH_takes [13, 14, 15, 16, 17, 18, 19, 20] (by kernel_rfl) (fun _ _ _ _ _ h => h) hS (by kernel_rfl) ?_
      simp only [pickOps, List.filterMap_cons, List.filterMap_nil, List.getElem?_cons_zero, List.getElem?_cons_succ]
      repeat ((with_reducible apply wpHeld_stepG); (· rfl); (· (intro w hSw; first | (go_simp; rfl) | ((first | exact held_rsg0 | exact held_pub0 | (obtain ⟨_, _, _, hM'⟩ := hSw; first | exact yields_load (C := fun _ => True) (sql hM' (hty := row_rsg)) rfl | exact yields_load (C := fun _ => True) (sql hM' (hty := row_sgn)) rfl))))); intro K hK; go_simp; (with_reducible refine hK _ ?_); clear hK K)
      refine wpHeld_nil ?_
      refine wpAllH_one 21 rfl (by kernel_rfl) ?_
      go_wp2_with fail
      refine (HKI.out _).mono ?_
      rintro e w1 ⟨rfl, rfl⟩
      go_wp2_with fail
      refine then_normal ⟨hS, ?_⟩
      refine wpAllH_takes [22, 23, 24, 25] (by kernel_rfl) (fun _ _ _ _ _ h => h) hS (by kernel_rfl) ?_
      simp only [pickOps, List.filterMap_cons, List.filterMap_nil, List.getElem?_cons_zero, List.getElem?_cons_succ]
      repeat ((with_reducible apply wpHeld_stepG); (· rfl); (· (intro w hSw; first | (go_simp; rfl) | ((first | exact held_rsg0 | exact held_pub0 | (obtain ⟨_, _, _, hM'⟩ := hSw; first | exact yields_load (C := fun _ => True) (sql hM' (hty := row_rsg)) rfl | exact yields_load (C := fun _ => True) (sql hM' (hty := row_sgn)) rfl))))); intro K hK; go_simp; (with_reducible refine hK _ ?_); clear hK K)
      refine wpHeld_nil ?_
      refine wpAllH_one 26 rfl (by kernel_rfl) ?_
      go_wp2_with fail
      refine (nnext_any _).mono ?_
      rintro e w1 ⟨rfl, rfl⟩
      go_wp2_with fail
      refine then_normal ⟨hS, ?_⟩
      refine wpAllH_takes [27, 28, 29, 30] (by kernel_rfl) (fun _ _ _ _ _ h => h) hS (by kernel_rfl) ?_
      simp only [pickOps, List.filterMap_cons, List.filterMap_nil, List.getElem?_cons_zero, List.getElem?_cons_succ]
      repeat ((with_reducible apply wpHeld_stepG); (· rfl); (· (intro w hSw; first | (go_simp; rfl) | ((first | exact held_rsg0 | exact held_pub0 | (obtain ⟨_, _, _, hM'⟩ := hSw; first | exact yields_load (C := fun _ => True) (sql hM' (hty := row_rsg)) rfl | exact yields_load (C := fun _ => True) (sql hM' (hty := row_sgn)) rfl))))); intro K hK; go_simp; (with_reducible refine hK _ ?_); clear hK K)
      refine wpHeld_nil ?_
      refine wpAllH_one 31 rfl (by kernel_rfl) ?_
      go_wp2_with fail
      refine (nleft_any _).mono ?_
      rintro e w1 ⟨rfl, rfl⟩
      go_wp2_with fail
      refine then_normal ⟨hS, ?_⟩
      refine wpAllH_takes [32, 33, 34, 35] (by kernel_rfl) (fun _ _ _ _ _ h => h) hS (by kernel_rfl) ?_
      simp only [pickOps, List.filterMap_cons, List.filterMap_nil, List.getElem?_cons_zero, List.getElem?_cons_succ]
      repeat ((with_reducible apply wpHeld_stepG); (· rfl); (· (intro w hSw; first | (go_simp; rfl) | ((first | exact held_rsg0 | exact held_pub0 | (obtain ⟨_, _, _, hM'⟩ := hSw; first | exact yields_load (C := fun _ => True) (sql hM' (hty := row_rsg)) rfl | exact yields_load (C := fun _ => True) (sql hM' (hty := row_sgn)) rfl))))); intro K hK; go_simp; (with_reducible refine hK _ ?_); clear hK K)
      refine wpHeld_nil ?_
      refine wpAllH_takes [37] (by kernel_rfl) (fun _ _ _ _ _ h => h) hS (by kernel_rfl) ?_
      simp only [pickOps, List.filterMap_cons, List.filterMap_nil, List.getElem?_cons_zero, List.getElem?_cons_succ]
      with_reducible apply wpHeld_stepG
      · rfl
      · intro w hSw
        exact held_pub0
      intro K hK
      refine hK _ ?_
      clear hK K
      refine wpHeld_nil ?_
      refine wpAllH_one 36 rfl (by kernel_rfl) ?_
      go_wp2_with fail
      refine (npub_any _).mono ?_
      rintro e w1 ⟨rfl, hb⟩
      replace hM := hM.step hb
      clear hb hS
      have hS := HeldM.of (hM.subL (L' := [⟨g10, 31, 562, sigC 0 ch0 none 0 0⟩, ⟨g8, 31, 562, sigC 0 ch0 none 0 0⟩, ⟨g4, 26, 562, X2⟩, ⟨g3, 26, 562, X1⟩]) (List.Sublist.refl _))
      go_wp2_with fail
      refine then_normal ⟨hS, ?_⟩
      refine wpAllH_takes [38, 39, 40, 41, 43, 46, 47] (by kernel_rfl) (fun _ _ _ _ _ h => h) hS (by kernel_rfl) ?_
      simp only [pickOps, List.filterMap_cons, List.filterMap_nil, List.getElem?_cons_zero, List.getElem?_cons_succ]
      repeat ((with_reducible apply wpHeld_stepG); (· rfl); (· (intro w hSw; first | (go_simp; rfl) | ((first | exact held_rsg0 | exact held_pub0 | (obtain ⟨_, _, _, hM'⟩ := hSw; first | exact yields_load (C := fun _ => True) (sql hM' (hty := row_rsg)) rfl | exact yields_load (C := fun _ => True) (sql hM' (hty := row_sgn)) rfl))))); intro K hK; go_simp; (with_reducible refine hK _ ?_); clear hK K)
      refine wpHeld_nil ?_
      refine wpAllH_one 42 rfl (by kernel_rfl) ?_
      go_wp2_with fail
      refine (HO1.out _ hM.below).mono ?_
      rintro e w1 ⟨B3, c3, rfl, hb⟩
      replace hM := hM.newThing hb
      clear hb hS
      have hS := HeldM.of (hM.subL (L' := [⟨g10, 31, 562, sigC 0 ch0 none 0 0⟩, ⟨g8, 31, 562, sigC 0 ch0 none 0 0⟩, ⟨g4, 26, 562, X2⟩, ⟨g3, 26, 562, X1⟩]) (List.Sublist.refl _))
      go_wp2_with fail
      refine then_normal ⟨hS, ?_⟩
      refine wpAllH_one 44 rfl (by kernel_rfl) ?_
      go_wp2_with fail
      refine (HO2.out _ hM.below).mono ?_
      rintro e w1 ⟨B4, c4, rfl, hb⟩
      replace hM := hM.newThing hb
      clear hb hS
      have hS := HeldM.of (hM.subL (L' := [⟨g10, 31, 562, sigC 0 ch0 none 0 0⟩, ⟨g8, 31, 562, sigC 0 ch0 none 0 0⟩, ⟨g4, 26, 562, X2⟩, ⟨g3, 26, 562, X1⟩]) (List.Sublist.refl _))
      go_wp2_with fail
      refine then_normal ⟨hS, ?_⟩
      refine wpAllH_one 45 rfl (by kernel_rfl) ?_
      go_wp2_with fail
      refine (HEQ.out _ _ _ _ _ (p16T_in (hM.thing _ (List.Mem.tail _ (List.Mem.head _)))) (p16T_in (hM.thing _ (List.Mem.head _)))).mono ?_
      rintro e w1 ⟨rfl, hb⟩
      replace hM := hM.step hb
      clear hb hS
      have hS := HeldM.of (hM.subL (L' := [⟨g10, 31, 562, sigC 0 ch0 none 0 0⟩, ⟨g8, 31, 562, sigC 0 ch0 none 0 0⟩, ⟨g4, 26, 562, X2⟩, ⟨g3, 26, 562, X1⟩]) (List.Sublist.refl _))
      go_wp2_with fail
      refine then_normal ⟨hS, ?_⟩
      refine wpAllH_one 48 rfl (by kernel_rfl) ?_
      go_wp2_with fail
      refine (HSA.out _ hM.below).mono ?_
      rintro e w1 ⟨rfl, hb⟩
      replace hM := hM.step hb
      clear hb hS
      have hS := HeldM.of (hM.subL (L' := [⟨g10, 31, 562, sigC 0 ch0 none 0 0⟩, ⟨g8, 31, 562, sigC 0 ch0 none 0 0⟩, ⟨g4, 26, 562, X2⟩, ⟨g3, 26, 562, X1⟩]) (List.Sublist.refl _))
      go_wp2_with fail
      refine then_normal ⟨hS, ?_⟩
      refine wpAllH_takes [49, 50, 51, 52, 54] (by kernel_rfl) (fun _ _ _ _ _ h => h) hS (by kernel_rfl) ?_
      simp only [pickOps, List.filterMap_cons, List.filterMap_nil, List.getElem?_cons_zero, List.getElem?_cons_succ]
      repeat ((with_reducible apply wpHeld_stepG); (· rfl); (· (intro w hSw; first | (go_simp; rfl) | ((first | exact held_rsg0 | exact held_pub0 | (obtain ⟨_, _, _, hM'⟩ := hSw; first | exact yields_load (C := fun _ => True) (sql hM' (hty := row_rsg)) rfl | exact yields_load (C := fun _ => True) (sql hM' (hty := row_sgn)) rfl))))); intro K hK; go_simp; (with_reducible refine hK _ ?_); clear hK K)
      refine wpHeld_nil ?_
      refine wpAllH_one 53 rfl (by kernel_rfl) ?_
      go_wp2_with fail
      refine (HO1.out _ hM.below).mono ?_
      rintro e w1 ⟨B5, c5, rfl, hb⟩
      replace hM := hM.newThing hb
      clear hb hS
      have hS := HeldM.of (hM.subL (L' := [⟨g10, 31, 562, sigC 0 ch0 none 0 0⟩, ⟨g8, 31, 562, sigC 0 ch0 none 0 0⟩, ⟨g4, 26, 562, X2⟩, ⟨g3, 26, 562, X1⟩]) (List.Sublist.refl _))
      go_wp2_with fail
      refine then_normal ⟨hS, ?_⟩
      refine wpAllH_one 55 rfl (by kernel_rfl) ?_
      go_wp2_with fail
      refine (HO1.out _ hM.below).mono ?_
      rintro e w1 ⟨B6, c6, rfl, hb⟩
      replace hM := hM.newThing hb
      clear hb hS
      have hS := HeldM.of (hM.subL (L' := [⟨g10, 31, 562, sigC 0 ch0 none 0 0⟩, ⟨g8, 31, 562, sigC 0 ch0 none 0 0⟩, ⟨g4, 26, 562, X2⟩, ⟨g3, 26, 562, X1⟩]) (List.Sublist.refl _))
      go_wp2_with fail
      refine then_normal ⟨hS, ?_⟩
      refine wpAllH_one 56 rfl (by kernel_rfl) ?_
      go_wp2_with fail
      refine (HEQ1.out _ _ _ _ _ (p16T_in (hM.thing _ (List.Mem.tail _ (List.Mem.head _)))) (p16T_in (hM.thing _ (List.Mem.head _)))).mono ?_
      rintro e w1 ⟨rfl, hb⟩
      replace hM := hM.step hb
      clear hb hS
      have hS := HeldM.of (hM.subL (L' := [⟨g10, 31, 562, sigC 0 ch0 none 0 0⟩, ⟨g8, 31, 562, sigC 0 ch0 none 0 0⟩, ⟨g4, 26, 562, X2⟩, ⟨g3, 26, 562, X1⟩]) (List.Sublist.refl _))
      go_wp2_with fail
      refine then_normal ⟨hS, ?_⟩
      refine wpAllH_takes [57, 58] (by kernel_rfl) (fun _ _ _ _ _ h => h) hS (by kernel_rfl) ?_
      simp only [pickOps, List.filterMap_cons, List.filterMap_nil, List.getElem?_cons_zero, List.getElem?_cons_succ]
      repeat ((with_reducible apply wpHeld_stepG); (· rfl); (· (intro w hSw; first | (go_simp; rfl) | (fail))); intro K hK; go_simp; (with_reducible refine hK _ ?_); clear hK K)
      refine wpHeld_nil ?_
      refine wpAllH_done (by kernel_rfl) ?_
      go_wp2_with fail
      go_ret
      exact ⟨rfl, hM.below⟩
    · rw [decide_eq_false h21] at HF2
      generalize sigC l1 x A1 n1 c1 = X1 at HS1 HF1 ⊢
      generalize sigC l2 y A2 n2 c2 = X2 at HS2 HF2 ⊢
      clear h1 h2 hT hA h20 h21
      go_enter Tryd.func7, Tryd.ntmps7
      go_wp2_with (first | ((with_reducible refine at_box ?_); first | (refine slb hM ?_ (hty := row_rsg) (hn := HS1.out); clear hM; intro g3 w1 hM) | (refine slb hM ?_ (hty := row_rsg) (hn := HS2.out); clear hM; intro g4 w1 hM)) | ((with_reducible refine (HK.out _ hM.below).mono ?_); rintro e w1 ⟨rfl, hb⟩; replace hM := hM.step hb; clear hb) | ((with_reducible refine (HF1.out _).mono ?_); rintro e w1 ⟨rfl, hb⟩; replace hM := hM.step hb; clear hb) | ((with_reducible refine (HF2.out _).mono ?_); rintro e w1 ⟨rfl, hb⟩; replace hM := hM.step hb; clear hb) | ((first | with_reducible refine at_load ?_ | ((with_reducible refine at_load_g ?_ ?_); (· rfl))); refine sll hM ?_ (hty := row_rsg)) | ((with_reducible refine at_build ?_); refine wpList_build_zero rfl _ (by rfl) _ _ zero_a16 arr_a16 ?_) | ((with_reducible refine at_alloc ?_); (refine slz hM ?_ (hz := zero_sgn); clear hM; intro g9 w1 hM)) | ((with_reducible refine at_store ?_); (refine slw hM ?_ (hs := sigC_size _ _ _ _ _) (h1 := sigC_one _ _ _ _ _) (hty := row_sgn); clear hM; intro wx hM)) | ((with_reducible refine (HNS.out _).mono ?_); rintro e w1 ⟨rfl, hb⟩; replace hM := hM.step hb; clear hb) | ((with_reducible refine (HNL.out _).mono ?_); rintro e w1 ⟨rfl, hb⟩; replace hM := hM.step hb; clear hb))
      go_ret
      exact ⟨rfl, hM.below⟩
  · rw [decide_eq_false h20] at HF1
    generalize sigC l1 x A1 n1 c1 = X1 at HS1 HF1 ⊢
    generalize sigC l2 y A2 n2 c2 = X2 at HS2 HF2 ⊢
    clear h1 h2 hT hA h20
    go_enter Tryd.func7, Tryd.ntmps7
    go_wp2_with (first | ((with_reducible refine at_box ?_); first | (refine slb hM ?_ (hty := row_rsg) (hn := HS1.out); clear hM; intro g3 w1 hM) | (refine slb hM ?_ (hty := row_rsg) (hn := HS2.out); clear hM; intro g4 w1 hM)) | ((with_reducible refine (HK.out _ hM.below).mono ?_); rintro e w1 ⟨rfl, hb⟩; replace hM := hM.step hb; clear hb) | ((with_reducible refine (HF1.out _).mono ?_); rintro e w1 ⟨rfl, hb⟩; replace hM := hM.step hb; clear hb) | ((with_reducible refine (HF2.out _).mono ?_); rintro e w1 ⟨rfl, hb⟩; replace hM := hM.step hb; clear hb) | ((first | with_reducible refine at_load ?_ | ((with_reducible refine at_load_g ?_ ?_); (· rfl))); refine sll hM ?_ (hty := row_rsg)) | ((with_reducible refine at_build ?_); refine wpList_build_zero rfl _ (by rfl) _ _ zero_a16 arr_a16 ?_) | ((with_reducible refine at_alloc ?_); (refine slz hM ?_ (hz := zero_sgn); clear hM; intro g9 w1 hM)) | ((with_reducible refine at_store ?_); (refine slw hM ?_ (hs := sigC_size _ _ _ _ _) (h1 := sigC_one _ _ _ _ _) (hty := row_sgn); clear hM; intro wx hM)) | ((with_reducible refine (HNS.out _).mono ?_); rintro e w1 ⟨rfl, hb⟩; replace hM := hM.step hb; clear hb) | ((with_reducible refine (HNL.out _).mono ?_); rintro e w1 ⟨rfl, hb⟩; replace hM := hM.step hb; clear hb))
    go_ret
    exact ⟨rfl, hM.below⟩
end Go.Proofs.YtdnnjgjaffkdfaaDoor
