/- The walk of SignerVerify. -/
import Derived.Test.YtdnnjgjaffkdfaaDoorXa
namespace Go.Proofs.YtdnnjgjaffkdfaaDoor
open Go Go.RowKit Go.Bul Go.Thg Go.Lin
set_option maxRecDepth 20000 in
set_option maxHeartbeats 8000000 in
theorem sverify_any (h : Int) (r d : Nd) (leaf : Int) (ch : Ch) (A : Option Addr) (n c : Nat) (path : List Nd) (w : World) (hr : NIn w A n path) (hT : Tab w) (hA : Alp w) :
    Calls Tryd.prog 3 #[.int .i64 h, .agg (ndC r), .agg (ndC d), .agg (sigC leaf ch A n c)] w fun e w' => e = .returned (.bool true) ∧ Below w.heap.size w w' := by
  have hM := Mem.start [] w
  have HS := Lib.hid (sigC_size leaf ch A n c)
  have HP := Lib.hid (sigC_p leaf ch A n c)
  have HK := Lib.hid (fun w' (hb : Below w.heap.size w w') => known_any w' (hT.keep hb) (hA.keep hb))
  have HF := Lib.hid (fun w => few_any leaf ch A n c w)
  by_cases h20 : n ≤ 20
  · rw [decide_eq_true h20] at HF
    have HO := Lib.hid (fun w' (hb : Below w.heap.size w w') => lown_any leaf ch A n c path w' (hr.keep hb) (by omega))
    have HC := Lib.hid (fun w => rchk_any leaf ch A n c w (by omega))
    have HG := Lib.hid (fun B c w => gcheck_any leaf ch B n c w)
    have HV := Lib.hid (fun B c w' (hr : NIn w' B n path) (hb : Below w.heap.size w w') => gver_any h r d leaf ch B n c path w' hr (hT.keep hb))
    have HRV := Lib.hid (fun w' (hb : Below w.heap.size w w') => rver_any h r d leaf ch A n c path w' (hr.keep hb) (by omega))
    generalize verE h r d leaf ch n path = ve at HV HRV
    have n0 : (0 : Int) ≤ (n : Int) := Int.natCast_nonneg _
    have n1 : (n : Int) ≤ 20 := by omega
    by_cases h2 : sgE leaf n = 0
    · obtain ⟨k, rfl⟩ : ∃ k : Nat, leaf = (k : Int) := by
        unfold sgE at h2
        split at h2
        · rename_i h3
          exact ⟨leaf.toNat, by omega⟩
        · cases h2
      rw [h2] at HC HG
      have HRT := Lib.hid (fun B c w' (hr : NIn w' B n path) (hb : Below w.heap.size w w') => groot_yes k ch B n c path d w' hr h2 (hT.keep hb))
      have HRR := Lib.hid (fun w' (hb : Below w.heap.size w w') => rreach_any k ch A n c path d w' (hr.keep hb) h2)
      have HV2 := Lib.hid (fun B c w' (hr : NIn w' B n path) (hb : Below w.heap.size w w') => gver_any (n : Nat) (rootS k d ch path) d (k : Nat) ch B n c path w' hr (hT.keep hb))
      have hv2 : verE (n : Nat) (rootS k d ch path) d (k : Nat) ch n path = 0 := by
        obtain ⟨b1, b8, _⟩ := sgE_bounds h2
        unfold verE
        rw [if_neg (by rw [hE_ok b1 b8]; decide), if_neg (by simp [h2]), if_pos ⟨rfl, by rw [Int.toNat_natCast]⟩]
      rw [hv2] at HV2
      have HB := Lib.hid (fun B c w' (hr : NIn w' B n path) => lback_any (k : Nat) ch B n c path w' hr (by omega))
      have HSM := Lib.hid (fun B c' w' (h1 : NIn w' B n path) (hb : Below w.heap.size w w') => rsame_any (k : Nat) (k : Nat) ch ch B A n c' n c path path w' h1 (hr.keep hb) (by omega) (by omega))
      simp only [decide_true, and_self] at HSM
      generalize rootS k d ch path = Z at HRT HRR HV2
      have qe := eq_16 Z Z
      rw [decide_eq_true rfl] at qe
      have HR := Lib.hid hr
      generalize hX : sigC (k : Nat) ch A n c = X at HS HP HF HO HC HRV HRR HSM ⊢
      clear hr hT hA h20 h2 hv2 hX
      go_enter Tryd.func3, Tryd.ntmps3
      go_upto_region 7 with (first | ((with_reducible refine at_box ?_); first | (refine slb hM ?_ (hty := row_rsg) (hn := HS.out); clear hM; intro g7 w1 hM) | (refine slb hM ?_ (hty := row_a16) (hn := ndC_size _); clear hM; intro g5 w1 hM)) | ((first | with_reducible refine at_load ?_ | ((with_reducible refine at_load_g ?_ ?_); (· rfl))); first | refine sll hM ?_ (hty := row_rsg) | refine sll hM ?_ (hty := row_a16) | refine sll hM ?_ (hty := row_sgn) | refine slc hM ?_ (hv := HP.out)) | ((with_reducible refine (HK.out _ hM.below).mono ?_); rintro e w1 ⟨rfl, hb⟩; replace hM := hM.step hb; clear hb) | ((with_reducible refine (HF.out _).mono ?_); rintro e w1 ⟨rfl, hb⟩; replace hM := hM.step hb; clear hb) | ((with_reducible refine (HO.out _ hM.below).mono ?_); rintro e w1 ⟨B, c', rfl, hb⟩; replace hM := hM.newThing hb; clear hb) | ((with_reducible refine (HRT.out _ _ _ (p16T_in (hM.thing _ (List.Mem.head _))) hM.below).mono ?_); rintro e w1 ⟨rfl, hb⟩; replace hM := hM.step hb; clear hb) | ((with_reducible refine (HC.out _).mono ?_); rintro e w1 ⟨rfl, hb⟩; replace hM := hM.step hb; clear hb) | ((with_reducible refine at_build ?_); refine lbpub ?_) | ((with_reducible refine at_alloc ?_); first | (refine slz hM ?_ (hz := zero_pub); clear hM; intro g9 w1 hM) | (refine slz hM ?_ (hz := zero_sgn); clear hM; intro g10 w1 hM) | (refine slz hM ?_ (hz := zero_a16); clear hM; intro g11 w1 hM)) | ((with_reducible refine at_store ?_); first | (refine slw hM ?_ (hs := pubC_size _ _) (h1 := pubC_one _ _) (hty := row_pub); clear hM; intro wx hM) | (refine slw hM ?_ (hs := sigC_size _ _ _ _ _) (h1 := sigC_one _ _ _ _ _) (hty := row_sgn); clear hM; intro wx hM) | (refine slw hM ?_ (hs := ndC_size _) (hty := row_a16); clear hM; intro wx hM)))
      refine Go.Bul.wp_region_class (Mem _ w _ _) (by kernel_rfl) (by kernel_rfl) hM.drew ?_
      repeat ((with_reducible refine wpQuiet_step (fun K hK => ?_)); (first | ((first | ((with_reducible refine quiet_some ?_ ?_); (· rfl)) | ((with_reducible refine Go.Thg.quiet_wanted ?_ ?_); (· rfl))); apply Exists.intro; refine ⟨fun w' hM' => ?_, ?_⟩; (· first | (go_simp; rfl) | exact sql hM' (hty := row_sgn) | exact sql hM' (hty := row_pub) | exact sql hM' (hty := row_a16) | exact sql hM' (hty := row_rsg) | (go_simp; with_reducible refine at_calls ?_; first | exact quiet_mem_call hM' (HG.out _ _ _) | exact quiet_mem_call hM' (HV.out _ _ _ (p16T_in (hM'.thing _ (List.Mem.head _))) hM'.below) | exact quiet_mem_call hM' (HRV.out _ hM'.below)) | exact qc hM' | exact ql hM' | exact qp hM')) | ((with_reducible refine Go.Thg.quiet_unwanted ?_ ?_); (· rfl))); go_simp; (with_reducible refine hK _ ?_); clear hK K)
      refine wpQuiet_nil ?_
      intro wx hM
      go_upto_region 12 with (first | ((with_reducible refine at_box ?_); first | (refine slb hM ?_ (hty := row_rsg) (hn := HS.out); clear hM; intro g7 w1 hM) | (refine slb hM ?_ (hty := row_a16) (hn := ndC_size _); clear hM; intro g5 w1 hM)) | ((first | with_reducible refine at_load ?_ | ((with_reducible refine at_load_g ?_ ?_); (· rfl))); first | refine sll hM ?_ (hty := row_rsg) | refine sll hM ?_ (hty := row_a16) | refine sll hM ?_ (hty := row_sgn) | refine slc hM ?_ (hv := HP.out)) | ((with_reducible refine (HK.out _ hM.below).mono ?_); rintro e w1 ⟨rfl, hb⟩; replace hM := hM.step hb; clear hb) | ((with_reducible refine (HF.out _).mono ?_); rintro e w1 ⟨rfl, hb⟩; replace hM := hM.step hb; clear hb) | ((with_reducible refine (HO.out _ hM.below).mono ?_); rintro e w1 ⟨B, c', rfl, hb⟩; replace hM := hM.newThing hb; clear hb) | ((with_reducible refine (HRT.out _ _ _ (p16T_in (hM.thing _ (List.Mem.head _))) hM.below).mono ?_); rintro e w1 ⟨rfl, hb⟩; replace hM := hM.step hb; clear hb) | ((with_reducible refine (HC.out _).mono ?_); rintro e w1 ⟨rfl, hb⟩; replace hM := hM.step hb; clear hb) | ((with_reducible refine at_build ?_); refine lbpub ?_) | ((with_reducible refine at_alloc ?_); first | (refine slz hM ?_ (hz := zero_pub); clear hM; intro g9 w1 hM) | (refine slz hM ?_ (hz := zero_sgn); clear hM; intro g10 w1 hM) | (refine slz hM ?_ (hz := zero_a16); clear hM; intro g11 w1 hM)) | ((with_reducible refine at_store ?_); first | (refine slw hM ?_ (hs := pubC_size _ _) (h1 := pubC_one _ _) (hty := row_pub); clear hM; intro wx hM) | (refine slw hM ?_ (hs := sigC_size _ _ _ _ _) (h1 := sigC_one _ _ _ _ _) (hty := row_sgn); clear hM; intro wx hM) | (refine slw hM ?_ (hs := ndC_size _) (hty := row_a16); clear hM; intro wx hM)))
      obtain ⟨g14, hg14⟩ := hM.name1
      obtain ⟨g11, hg11⟩ := (hM.subL (List.sublist_cons_self _ _)).name1
      obtain ⟨g10, hg10⟩ := (hM.subL (List.Sublist.cons _ (List.sublist_cons_self _ _))).name1
      obtain ⟨g9, hg9⟩ := (hM.subL (List.Sublist.cons _ (List.Sublist.cons _ (List.sublist_cons_self _ _)))).name1
      obtain ⟨g7, hg7⟩ := (hM.subL (List.Sublist.cons _ (List.Sublist.cons _ (List.Sublist.cons _ (List.sublist_cons_self _ _))))).name1
      obtain ⟨g6, hg6⟩ := (hM.subL (List.Sublist.cons _ (List.Sublist.cons _ (List.Sublist.cons _ (List.Sublist.cons _ (List.sublist_cons_self _ _)))))).name1
      obtain ⟨g5, hg5⟩ := (hM.subL (List.Sublist.cons _ (List.Sublist.cons _ (List.Sublist.cons _ (List.Sublist.cons _ (List.Sublist.cons _ (List.sublist_cons_self _ _))))))).name1
      subst hg14 hg11 hg10 hg9 hg7 hg6 hg5
      refine wp_region_allHM hM (HeldM [⟨g14, 30, 17, pubC (n : Nat) Z⟩, ⟨g11, 22, 16, ndC Z⟩, ⟨g10, 31, 562, sigC (k : Nat) ch B n c'⟩, ⟨g7, 26, 562, X⟩, ⟨g6, 22, 16, ndC d⟩]) (by kernel_rfl) ?_
      clear hM
      intro wd hM
      have hS := HeldM.of (hM.subL (L' := [⟨g14, 30, 17, pubC (n : Nat) Z⟩, ⟨g11, 22, 16, ndC Z⟩, ⟨g10, 31, 562, sigC (k : Nat) ch B n c'⟩, ⟨g7, 26, 562, X⟩, ⟨g6, 22, 16, ndC d⟩]) (List.Sublist.cons_cons _ (List.Sublist.cons_cons _ (List.Sublist.cons_cons _ (List.Sublist.cons _ (List.Sublist.cons_cons _ (List.Sublist.cons_cons _ (List.nil_sublist _))))))))
      refine wpAllH_takes [0, 1, 2] (by kernel_rfl) (fun _ _ _ _ _ h => h) hS (by kernel_rfl) ?_
      simp only [pickOps, List.filterMap_cons, List.filterMap_nil, List.getElem?_cons_zero, List.getElem?_cons_succ]
      repeat ((with_reducible apply wpHeld_step); (· rfl); (· (intro w hSw; first | (go_simp; rfl) | ((obtain ⟨_, _, _, hM'⟩ := hSw; first | exact yields_load (C := fun _ => True) (sql hM' (hty := row_a16)) rfl | exact yields_load (C := fun _ => True) (sql hM' (hty := row_rsg)) rfl | exact yields_load (C := fun _ => True) (sql hM' (hty := row_pub)) rfl | exact yields_load (C := fun _ => True) (sql hM' (hty := row_sgn)) rfl)))); intro K hK; go_simp; (with_reducible refine hK _ ?_); clear hK K)
      refine wpHeld_nil ?_
      refine wpAllH_one 3 rfl (by kernel_rfl) ?_
      go_wp2_with fail
      refine (HRR.out _ hM.below).mono ?_
      rintro e w1 ⟨rfl, hb⟩
      replace hM := hM.step hb
      clear hb hS
      have hS := HeldM.of (hM.subL (L' := [⟨g14, 30, 17, pubC (n : Nat) Z⟩, ⟨g11, 22, 16, ndC Z⟩, ⟨g10, 31, 562, sigC (k : Nat) ch B n c'⟩, ⟨g7, 26, 562, X⟩, ⟨g6, 22, 16, ndC d⟩]) (List.Sublist.cons_cons _ (List.Sublist.cons_cons _ (List.Sublist.cons_cons _ (List.Sublist.cons _ (List.Sublist.cons_cons _ (List.Sublist.cons_cons _ (List.nil_sublist _))))))))
      go_wp2_with fail
      refine then_normal ⟨hS, ?_⟩
      refine wpAllH_takes [4, 5, 6, 7, 8] (by kernel_rfl) (fun _ _ _ _ _ h => h) hS (by kernel_rfl) ?_
      simp only [pickOps, List.filterMap_cons, List.filterMap_nil, List.getElem?_cons_zero, List.getElem?_cons_succ]
      repeat ((with_reducible apply wpHeld_stepG); (· rfl); (· (intro w hSw; first | (go_simp; rfl) | ((obtain ⟨_, _, _, hM'⟩ := hSw; first | exact yields_load (C := fun _ => True) (sql hM' (hty := row_a16)) rfl | exact yields_load (C := fun _ => True) (sql hM' (hty := row_rsg)) rfl | exact yields_load (C := fun _ => True) (sql hM' (hty := row_pub)) rfl | exact yields_load (C := fun _ => True) (sql hM' (hty := row_sgn)) rfl)))); intro K hK; go_simp; (with_reducible refine hK _ ?_); clear hK K)
      refine wpHeld_nil ?_
      refine wpAllH_one 9 rfl (by kernel_rfl) ?_
      go_wp2_with fail
      refine (HV2.out _ _ _ (p16T_in (hM.thing _ (List.Mem.head _))) hM.below).mono ?_
      rintro e w1 ⟨rfl, hb⟩
      replace hM := hM.step hb
      clear hb hS
      have hS := HeldM.of (hM.subL (L' := [⟨g14, 30, 17, pubC (n : Nat) Z⟩, ⟨g11, 22, 16, ndC Z⟩, ⟨g10, 31, 562, sigC (k : Nat) ch B n c'⟩, ⟨g7, 26, 562, X⟩, ⟨g6, 22, 16, ndC d⟩]) (List.Sublist.cons_cons _ (List.Sublist.cons_cons _ (List.Sublist.cons_cons _ (List.Sublist.cons _ (List.Sublist.cons_cons _ (List.Sublist.cons_cons _ (List.nil_sublist _))))))))
      go_wp2_with fail
      refine then_normal ⟨hS, ?_⟩
      refine wpAllH_takes [10, 11, 12, 13, 15] (by kernel_rfl) (fun _ _ _ _ _ h => h) hS (by kernel_rfl) ?_
      simp only [pickOps, List.filterMap_cons, List.filterMap_nil, List.getElem?_cons_zero, List.getElem?_cons_succ]
      repeat ((with_reducible apply wpHeld_stepG); (· rfl); (· (intro w hSw; first | (go_simp; rfl) | ((obtain ⟨_, _, _, hM'⟩ := hSw; first | exact yields_load (C := fun _ => True) (sql hM' (hty := row_a16)) rfl | exact yields_load (C := fun _ => True) (sql hM' (hty := row_rsg)) rfl | exact yields_load (C := fun _ => True) (sql hM' (hty := row_pub)) rfl | exact yields_load (C := fun _ => True) (sql hM' (hty := row_sgn)) rfl)))); intro K hK; go_simp; (with_reducible refine hK _ ?_); clear hK K)
      refine wpHeld_nil ?_
      refine wpAllH_one 14 rfl (by kernel_rfl) ?_
      go_wp2_with fail
      refine (HB.out _ _ _ (p16T_in (hM.thing _ (List.Mem.head _)))).mono ?_
      rintro e w1 ⟨B2, c2, rfl, hb⟩
      replace hM := hM.newThing hb
      clear hb hS
      have hS := HeldM.of (hM.subL (L' := [⟨g14, 30, 17, pubC (n : Nat) Z⟩, ⟨g11, 22, 16, ndC Z⟩, ⟨g10, 31, 562, sigC (k : Nat) ch B n c'⟩, ⟨g7, 26, 562, X⟩, ⟨g6, 22, 16, ndC d⟩]) (List.Sublist.cons_cons _ (List.Sublist.cons_cons _ (List.Sublist.cons_cons _ (List.Sublist.cons _ (List.Sublist.cons_cons _ (List.Sublist.cons_cons _ (List.nil_sublist _))))))))
      go_wp2_with fail
      refine then_normal ⟨hS, ?_⟩
      refine wpAllH_one 16 rfl (by kernel_rfl) ?_
      go_wp2_with fail
      refine (HSM.out _ _ _ (p16T_in (hM.thing _ (List.Mem.head _))) hM.below).mono ?_
      rintro e w1 ⟨rfl, hb⟩
      replace hM := hM.step hb
      clear hb hS
      have hS := HeldM.of (hM.subL (L' := [⟨g14, 30, 17, pubC (n : Nat) Z⟩, ⟨g11, 22, 16, ndC Z⟩, ⟨g10, 31, 562, sigC (k : Nat) ch B n c'⟩, ⟨g7, 26, 562, X⟩, ⟨g6, 22, 16, ndC d⟩]) (List.Sublist.cons_cons _ (List.Sublist.cons_cons _ (List.Sublist.cons_cons _ (List.Sublist.cons _ (List.Sublist.cons_cons _ (List.Sublist.cons_cons _ (List.nil_sublist _))))))))
      go_wp2_with fail
      refine then_normal ⟨hS, ?_⟩
      refine wpAllH_takes [17, 18] (by kernel_rfl) (fun _ _ _ _ _ h => h) hS (by kernel_rfl) ?_
      simp only [pickOps, List.filterMap_cons, List.filterMap_nil, List.getElem?_cons_zero, List.getElem?_cons_succ]
      repeat ((with_reducible apply wpHeld_stepG); (· rfl); (· (intro w hSw; first | (go_simp; rfl) | (fail))); intro K hK; go_simp; (with_reducible refine hK _ ?_); clear hK K)
      refine wpHeld_nil ?_
      refine wpAllH_done (by kernel_rfl) ?_
      go_wp2_with fail
      go_ret
      exact ⟨rfl, hM.below⟩
    · have h3 : sgE leaf n = 2 := by
        unfold sgE at h2 ⊢
        split
        · rename_i h4
          exact absurd (if_pos h4) h2
        · rfl
      have HRT := Lib.hid (fun B c w' => groot_no leaf ch B n c d w' h2)
      rw [h3] at HC HG HRT
      have qe := eq_16 nd0 nd0
      rw [decide_eq_true rfl] at qe
      have HR := Lib.hid hr
      generalize hX : sigC leaf ch A n c = X at HS HP HF HO HC HRV ⊢
      clear hr hT hA h20 h2 h3 hX
      go_enter Tryd.func3, Tryd.ntmps3
      go_upto_region 7 with (first | ((with_reducible refine at_box ?_); first | (refine slb hM ?_ (hty := row_rsg) (hn := HS.out); clear hM; intro g7 w1 hM) | (refine slb hM ?_ (hty := row_a16) (hn := ndC_size _); clear hM; intro g5 w1 hM)) | ((first | with_reducible refine at_load ?_ | ((with_reducible refine at_load_g ?_ ?_); (· rfl))); first | refine sll hM ?_ (hty := row_rsg) | refine sll hM ?_ (hty := row_a16) | refine sll hM ?_ (hty := row_sgn) | refine slc hM ?_ (hv := HP.out)) | ((with_reducible refine (HK.out _ hM.below).mono ?_); rintro e w1 ⟨rfl, hb⟩; replace hM := hM.step hb; clear hb) | ((with_reducible refine (HF.out _).mono ?_); rintro e w1 ⟨rfl, hb⟩; replace hM := hM.step hb; clear hb) | ((with_reducible refine (HO.out _ hM.below).mono ?_); rintro e w1 ⟨B, c', rfl, hb⟩; replace hM := hM.newThing hb; clear hb) | ((with_reducible refine (HRT.out _ _ _).mono ?_); rintro e w1 ⟨rfl, hb⟩; replace hM := hM.step hb; clear hb) | ((with_reducible refine (HC.out _).mono ?_); rintro e w1 ⟨rfl, hb⟩; replace hM := hM.step hb; clear hb) | ((with_reducible refine at_build ?_); refine lbpub ?_) | ((with_reducible refine at_alloc ?_); first | (refine slz hM ?_ (hz := zero_pub); clear hM; intro g9 w1 hM) | (refine slz hM ?_ (hz := zero_sgn); clear hM; intro g10 w1 hM) | (refine slz hM ?_ (hz := zero_a16); clear hM; intro g11 w1 hM)) | ((with_reducible refine at_store ?_); first | (refine slw hM ?_ (hs := pubC_size _ _) (h1 := pubC_one _ _) (hty := row_pub); clear hM; intro wx hM) | (refine slw hM ?_ (hs := sigC_size _ _ _ _ _) (h1 := sigC_one _ _ _ _ _) (hty := row_sgn); clear hM; intro wx hM) | (refine slw hM ?_ (hs := ndC_size _) (hty := row_a16); clear hM; intro wx hM)))
      refine Go.Bul.wp_region_class (Mem _ w _ _) (by kernel_rfl) (by kernel_rfl) hM.drew ?_
      repeat ((with_reducible refine wpQuiet_step (fun K hK => ?_)); (first | ((first | ((with_reducible refine quiet_some ?_ ?_); (· rfl)) | ((with_reducible refine Go.Thg.quiet_wanted ?_ ?_); (· rfl))); apply Exists.intro; refine ⟨fun w' hM' => ?_, ?_⟩; (· first | (go_simp; rfl) | exact sql hM' (hty := row_sgn) | exact sql hM' (hty := row_pub) | exact sql hM' (hty := row_a16) | exact sql hM' (hty := row_rsg) | (go_simp; with_reducible refine at_calls ?_; first | exact quiet_mem_call hM' (HG.out _ _ _) | exact quiet_mem_call hM' (HV.out _ _ _ (p16T_in (hM'.thing _ (List.Mem.head _))) hM'.below) | exact quiet_mem_call hM' (HRV.out _ hM'.below)) | exact qc hM' | exact ql hM' | exact qp hM')) | ((with_reducible refine Go.Thg.quiet_unwanted ?_ ?_); (· rfl))); go_simp; (with_reducible refine hK _ ?_); clear hK K)
      refine wpQuiet_nil ?_
      intro wx hM
      go_wp2_with (first | ((with_reducible refine at_build ?_); refine wpList_build_zero rfl _ (by rfl) _ _ zero_a16 arr_a16 ?_) | ((with_reducible refine at_box ?_); first | (refine slb hM ?_ (hty := row_rsg) (hn := HS.out); clear hM; intro g7 w1 hM) | (refine slb hM ?_ (hty := row_a16) (hn := ndC_size _); clear hM; intro g5 w1 hM)) | ((first | with_reducible refine at_load ?_ | ((with_reducible refine at_load_g ?_ ?_); (· rfl))); first | refine sll hM ?_ (hty := row_rsg) | refine sll hM ?_ (hty := row_a16) | refine sll hM ?_ (hty := row_sgn) | refine slc hM ?_ (hv := HP.out)) | ((with_reducible refine (HK.out _ hM.below).mono ?_); rintro e w1 ⟨rfl, hb⟩; replace hM := hM.step hb; clear hb) | ((with_reducible refine (HF.out _).mono ?_); rintro e w1 ⟨rfl, hb⟩; replace hM := hM.step hb; clear hb) | ((with_reducible refine (HO.out _ hM.below).mono ?_); rintro e w1 ⟨B, c', rfl, hb⟩; replace hM := hM.newThing hb; clear hb) | ((with_reducible refine (HRT.out _ _ _).mono ?_); rintro e w1 ⟨rfl, hb⟩; replace hM := hM.step hb; clear hb) | ((with_reducible refine (HC.out _).mono ?_); rintro e w1 ⟨rfl, hb⟩; replace hM := hM.step hb; clear hb) | ((with_reducible refine at_build ?_); refine lbpub ?_) | ((with_reducible refine at_alloc ?_); first | (refine slz hM ?_ (hz := zero_pub); clear hM; intro g9 w1 hM) | (refine slz hM ?_ (hz := zero_sgn); clear hM; intro g10 w1 hM) | (refine slz hM ?_ (hz := zero_a16); clear hM; intro g11 w1 hM)) | ((with_reducible refine at_store ?_); first | (refine slw hM ?_ (hs := pubC_size _ _) (h1 := pubC_one _ _) (hty := row_pub); clear hM; intro wx hM) | (refine slw hM ?_ (hs := sigC_size _ _ _ _ _) (h1 := sigC_one _ _ _ _ _) (hty := row_sgn); clear hM; intro wx hM) | (refine slw hM ?_ (hs := ndC_size _) (hty := row_a16); clear hM; intro wx hM)))
      go_ret
      exact ⟨rfl, hM.below⟩
  · rw [decide_eq_false h20] at HF
    generalize sigC leaf ch A n c = X at HS HP HF ⊢
    clear hr hT hA h20
    go_enter Tryd.func3, Tryd.ntmps3
    go_wp2_with (first | ((with_reducible refine at_box ?_); first | (refine slb hM ?_ (hty := row_rsg) (hn := HS.out); clear hM; intro g7 w1 hM) | (refine slb hM ?_ (hty := row_a16) (hn := ndC_size _); clear hM; intro g5 w1 hM)) | ((first | with_reducible refine at_load ?_ | ((with_reducible refine at_load_g ?_ ?_); (· rfl))); refine sll hM ?_ (hty := row_rsg)) | ((with_reducible refine (HK.out _ hM.below).mono ?_); rintro e w1 ⟨rfl, hb⟩; replace hM := hM.step hb; clear hb) | ((with_reducible refine (HF.out _).mono ?_); rintro e w1 ⟨rfl, hb⟩; replace hM := hM.step hb; clear hb))
    go_ret
    exact ⟨rfl, hM.below⟩
end Go.Proofs.YtdnnjgjaffkdfaaDoor
