/- Contracts of a Signer: Sign, Public, Next. -/
import Derived.Test.YtbbdnlcjjcmllaaDoorSgk
namespace Go.Proofs.YtbbdnlcjjcmllaaDoor
open Go Go.RowKit Go.Bul Go.Thg Go.Lin
set_option maxRecDepth 20000 in
set_option maxHeartbeats 4000000 in
theorem gsign_yes {w0 w : World} {L : List Ent} {R : List Thing} {g : Nat} (s : Sd) (h : Nat) (A : Option Addr) (n c : Nat) (lv : List Nd) (k : Nat) (d : Nd) (hM : Mem [] w0 (⟨g, 90, 35, sgrC s (h : Nat) A n c (k : Nat)⟩ :: L) R w) (hR : ndT (.slice A n c) lv ∈ R)
    (h1 : 1 ≤ h) (hh : h ≤ 8) (hn : lv.length = 2 ^ h) (hk : k + 1 < 2 ^ h) (hT : Tab w0) :
    Calls Tryd.prog 17 #[.pointer (some ⟨g, 0, none⟩), .agg (ndC d)] w fun e w' => ∃ B c', e = .returned (.tuple #[.agg (sigC (k : Nat) (sgCh s k d) B h c'), .int .i64 0]) ∧ Mem [] w0 (⟨g, 90, 35, sgrC s (h : Nat) A n c ((k : Int) + 1)⟩ :: L) (p16T (.slice B h c') (sibsF lv k h) :: R) w' := by
  have hp2 : (2 : Int) ^ h = ((2 ^ h : Nat) : Int) := by simp
  have HR := Lib.hid hR
  have HLA := Lib.hid (fun w' hc => last_any g h w' hc hh)
  have HU := Lib.hid (fun L R w' (hm : Mem [] w0 (⟨g, 90, 35, sgrC s (h : Nat) A n c (k : Nat)⟩ :: L) R w') (hr : ndT (.slice A n c) lv ∈ R) => use_any s h A n c (k : Nat) lv k d hm hr h1 hh hn (by omega) hT)
  have H32 := Lib.hid (sgrC_h s (h : Nat) A n c (k : Nat))
  have H34 := Lib.hid (sgrC_n s (h : Nat) A n c (k : Nat))
  have r1 : decide ((2 : Int) ^ h - 1 ≤ (k : Int)) = false := decide_eq_false (by omega)
  generalize sgCh s k d = ch at HU ⊢
  generalize sibsF lv k h = P at HU ⊢
  generalize sgrC s (h : Nat) A n c ((k : Int) + 1) = X2 at HU ⊢
  generalize sgrC s (h : Nat) A n c (k : Nat) = X at hM HU H32 H34
  clear hR h1 hh hn hk hT hp2
  go_enter Tryd.func17, Tryd.ntmps17
  go_upto_region 3 with (first | ((with_reducible refine at_box ?_); refine slb hM ?_ (hty := row_a16) (hn := ndC_size _); clear hM; intro g3 w1 hM) | ((with_reducible refine at_alloc ?_); refine slz hM ?_ (hz := zero_sgn); clear hM; intro g4 w1 hM))
  obtain ⟨g4, hg4⟩ := hM.name1
  obtain ⟨g3, hg3⟩ := (hM.subL (List.sublist_cons_self _ _)).name1
  subst hg4 hg3
  refine Go.Bul.wp_region_class (Mem _ w0 _ _) (by kernel_rfl) (by kernel_rfl) hM.drew ?_
  repeat ((with_reducible refine wpQuiet_step (fun K hK => ?_)); (first | ((first | ((with_reducible refine quiet_some ?_ ?_); (· rfl)) | ((with_reducible refine quiet_wanted ?_ ?_); (· rfl))); apply Exists.intro; refine ⟨fun w' hM' => ?_, ?_⟩; (· first | (go_simp; rfl) | exact sqc hM' (hv := H34.out) | (go_simp; with_reducible refine at_calls ?_; exact quiet_mem_call_same hM' (HLA.out _ (((hM'.blk (List.Mem.tail _ (List.Mem.tail _ (List.Mem.head _)))).cell 32).trans H32.out))) | exact qc hM' | exact ql hM' | exact qp hM')) | ((with_reducible refine quiet_unwanted ?_ ?_); (· rfl))); go_simp; (with_reducible refine hK _ ?_); clear hK K)
  refine wpQuiet_nil ?_
  intro wx hM
  go_upto_region 5 with fail
  refine wp_region_allTM hM 6 (HeldM [⟨g3, 23, 16, ndC d⟩, ⟨g, 90, 35, X⟩]) (by kernel_rfl) ?_
  clear hM
  intro wd hM
  have hS := HeldM.of (hM.subL (L' := [⟨g3, 23, 16, ndC d⟩, ⟨g, 90, 35, X⟩]) (List.Sublist.cons _ (List.Sublist.cons_cons _ (List.Sublist.cons_cons _ (List.nil_sublist _)))))
  refine wpAllT_takes [0, 1, 2, 3, 4, 5] (by kernel_rfl) (fun _ _ _ _ _ h => h) hS (by kernel_rfl) ?_
  simp only [pickOps, List.filterMap_cons, List.filterMap_nil, List.getElem?_cons_zero, List.getElem?_cons_succ]
  repeat ((with_reducible apply wpHeld_step); (· rfl); (· (intro wq hSw; first | (go_simp; rfl) | ((obtain ⟨_, _, _, hM'⟩ := hSw; first | exact yields_load (C := fun _ => True) (sqc hM' (hv := H34.out)) rfl | exact yields_load (C := fun _ => True) (sql hM' (hty := row_a16)) rfl)))); intro K hK; go_simp; (with_reducible refine hK _ ?_); clear hK K)
  refine wpHeld_nil ?_
  refine wpAllT_one 6 rfl (by kernel_rfl) ?_
  go_wp2_with fail
  refine (HU.out _ _ _ (hM.permL (List.perm_middle (l₁ := ([_, _] : List Ent))).symm) HR.out).mono ?_
  rintro e w1 ⟨B, c', rfl, hM2⟩
  replace hM := hM2.permL (List.perm_middle (l₁ := ([_, _] : List Ent)))
  simp only [List.cons_append, List.nil_append] at hM
  clear hM2 hS
  go_wp2_with fail
  refine then_normal ⟨.inl (by kernel_rfl), wpAllT_drop (by kernel_rfl) ?_⟩
  refine wpAll_takes [7, 8] (by kernel_rfl) (fun _ _ _ _ _ h => h) (by kernel_rfl) ?_
  simp only [pickOps, List.filterMap_cons, List.filterMap_nil, List.getElem?_cons_zero, List.getElem?_cons_succ]
  repeat ((with_reducible apply wpPure_step); (· rfl); (· (intro w; go_simp; rfl)); intro K hK; go_simp; (with_reducible refine hK _ ?_); clear hK K)
  refine wpPure_nil ?_
  refine wpAll_one 9 rfl (by kernel_rfl) ?_
  refine slw hM ?_ (hs := sigC_size _ _ _ _ _) (h1 := sigC_one _ _ _ _ _) (hty := row_sgn)
  clear hM
  intro wy hM
  refine wpList_then ?_
  go_simp
  refine wpAll_takes [10] (by kernel_rfl) (fun _ _ _ _ _ h => h) (by kernel_rfl) ?_
  simp only [pickOps, List.filterMap_cons, List.filterMap_nil, List.getElem?_cons_zero, List.getElem?_cons_succ]
  repeat ((with_reducible apply wpPure_step); (· rfl); (· (intro w; go_simp; rfl)); intro K hK; go_simp; (with_reducible refine hK _ ?_); clear hK K)
  refine wpPure_nil ?_
  refine wpAll_done (by kernel_rfl) ?_
  go_wp2_with fail
  exact bodyPost_ret (results_mem_cell_tmp hM rfl (by rfl) (by repeat (first | exact List.Mem.head _ | apply List.Mem.tail)) row_sgn (by rfl)) rfl ⟨B, c', rfl, hM.subL (List.Sublist.cons _ (List.Sublist.cons _ (List.Sublist.refl _)))⟩
set_option maxRecDepth 20000 in
set_option maxHeartbeats 2000000 in
theorem gsign_used {w0 w : World} {L : List Ent} {R : List Thing} {g : Nat} (s : Sd) (h : Nat) (A : Option Addr) (n c : Nat) (next : Int) (d : Nd) (hM : Mem [] w0 (⟨g, 90, 35, sgrC s (h : Nat) A n c next⟩ :: L) R w)
    (hh : h ≤ 8) (hk : (2 : Int) ^ h - 1 ≤ next) :
    Calls Tryd.prog 17 #[.pointer (some ⟨g, 0, none⟩), .agg (ndC d)] w fun e w' => e = .returned (.tuple #[.agg (sigC 0 ch0 none 0 0), .int .i64 19]) ∧ Mem [] w0 (⟨g, 90, 35, sgrC s (h : Nat) A n c next⟩ :: L) R w' := by
  have HLA := Lib.hid (fun w' hc => last_any g h w' hc hh)
  have H32 := Lib.hid (sgrC_h s (h : Nat) A n c next)
  have H34 := Lib.hid (sgrC_n s (h : Nat) A n c next)
  have r1 : decide ((2 : Int) ^ h - 1 ≤ next) = true := decide_eq_true hk
  generalize sgrC s (h : Nat) A n c next = X at hM H32 H34 ⊢
  clear hh hk
  go_enter Tryd.func17, Tryd.ntmps17
  go_upto_region 3 with (first | ((with_reducible refine at_box ?_); refine slb hM ?_ (hty := row_a16) (hn := ndC_size _); clear hM; intro g3 w1 hM) | ((with_reducible refine at_alloc ?_); refine slz hM ?_ (hz := zero_sgn); clear hM; intro g4 w1 hM))
  obtain ⟨g4, hg4⟩ := hM.name1
  obtain ⟨g3, hg3⟩ := (hM.subL (List.sublist_cons_self _ _)).name1
  subst hg4 hg3
  refine Go.Bul.wp_region_class (Mem _ w0 _ _) (by kernel_rfl) (by kernel_rfl) hM.drew ?_
  repeat ((with_reducible refine wpQuiet_step (fun K hK => ?_)); (first | ((first | ((with_reducible refine quiet_some ?_ ?_); (· rfl)) | ((with_reducible refine quiet_wanted ?_ ?_); (· rfl))); apply Exists.intro; refine ⟨fun w' hM' => ?_, ?_⟩; (· first | (go_simp; rfl) | exact sqc hM' (hv := H34.out) | (go_simp; with_reducible refine at_calls ?_; exact quiet_mem_call_same hM' (HLA.out _ (((hM'.blk (List.Mem.tail _ (List.Mem.tail _ (List.Mem.head _)))).cell 32).trans H32.out))) | exact qc hM' | exact ql hM' | exact qp hM')) | ((with_reducible refine quiet_unwanted ?_ ?_); (· rfl))); go_simp; (with_reducible refine hK _ ?_); clear hK K)
  refine wpQuiet_nil ?_
  intro wx hM
  go_wp2_with (first | ((with_reducible refine at_build ?_); refine lbsgn0 ?_) | ((with_reducible refine at_store ?_); refine slw hM ?_ (hs := sigC_size _ _ _ _ _) (h1 := sigC_one _ _ _ _ _) (hty := row_sgn); clear hM; intro wx hM))
  exact bodyPost_ret (results_mem_cell_tmp hM rfl (by rfl) (by repeat (first | exact List.Mem.head _ | apply List.Mem.tail)) row_sgn (by rfl)) rfl ⟨rfl, hM.subL (List.Sublist.cons _ (List.Sublist.cons _ (List.Sublist.refl _)))⟩
end Go.Proofs.YtbbdnlcjjcmllaaDoor
