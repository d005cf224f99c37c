/- Contract of Public of a Signer. Plain: a signature leads to the root of its key, and is accepted. -/
import Derived.Test.YtbbdnlcjjcmllaaDoorWf
namespace Go.Proofs.YtbbdnlcjjcmllaaDoor
open Go Go.RowKit Go.Bul Go.Thg Go.Lin
set_option maxRecDepth 20000 in
set_option maxHeartbeats 4000000 in
theorem gpub_yes {w0 w : World} {L : List Ent} {R : List Thing} {g : Nat} (s : Sd) (h : Nat) (A : Option Addr) (n c : Nat) (lv : List Nd) (next : Int) (hM : Mem [] w0 (⟨g, 90, 35, sgrC s (h : Nat) A n c next⟩ :: L) R w) (hR : ndT (.slice A n c) lv ∈ R)
    (hh : h ≤ 8) (hn : lv.length = 2 ^ h) (hT : Tab w0) :
    Calls Tryd.prog 20 #[.pointer (some ⟨g, 0, none⟩)] w fun e w' => e = .returned (.agg (pubC (h : Nat) (rootN lv))) ∧ Mem [] w0 (⟨g, 90, 35, sgrC s (h : Nat) A n c next⟩ :: L) R w' := by
  have hp : 2 ^ h ≤ 2 ^ 8 := Nat.pow_le_pow_right (by decide) hh
  have hnl : n = 2 ^ h := by rw [← hn]; exact (ndT_in (hM.thing _ hR)).len
  have HR := Lib.hid hR
  have HP := Lib.hid (fun w' (hr : NIn w' A n lv) (hb : Below w0.heap.size w0 w') => pubof_any (h : Nat) A n c lv w' hr (by omega) (by rw [hnl]; exact chk_two hh) (hT.keep hb))
  have H32 := Lib.hid (sgrC_h s (h : Nat) A n c next)
  have H33 := Lib.hid (sgrC_l s (h : Nat) A n c next)
  generalize rootN lv = Z at HP ⊢
  generalize sgrC s (h : Nat) A n c next = X at hM H32 H33 ⊢
  clear hR hh hn hT hnl hp
  go_enter Tryd.func20, Tryd.ntmps20
  go_upto_region 3 with ((with_reducible refine at_alloc ?_); refine slz hM ?_ (hz := zero_pub); clear hM; intro g2 w1 hM)
  obtain ⟨g2, hg2⟩ := hM.name1
  subst hg2
  refine wp_region_allHM hM (HeldM [⟨g, 90, 35, X⟩]) (by kernel_rfl) ?_
  clear hM
  intro wd hM
  have hS := HeldM.of (hM.subL (L' := [⟨g, 90, 35, X⟩]) (List.Sublist.cons _ (List.Sublist.cons_cons _ (List.nil_sublist _))))
  refine wpAllH_takes [0, 1, 2, 3, 5, 6, 7, 4, 8] (by kernel_rfl) (fun _ _ _ _ _ h => h) hS (by kernel_rfl) ?_
  simp only [pickOps, List.filterMap_cons, List.filterMap_nil, List.getElem?_cons_zero, List.getElem?_cons_succ]
  repeat ((with_reducible apply wpHeld_step); (· rfl); (· (intro w hSw; first | (go_simp; rfl) | ((obtain ⟨_, _, _, hM'⟩ := hSw; first | exact yields_load (C := fun _ => True) (sqc hM' (hv := H32.out)) rfl | exact yields_load (C := fun _ => True) (sqc hM' (hv := H33.out)) rfl)))); intro K hK; go_simp; (with_reducible refine hK _ ?_); clear hK K)
  refine wpHeld_nil ?_
  refine wpAllH_two 9 13 rfl rfl (by kernel_rfl) ?_ ?_
  · go_wp2_with fail
    refine (HP.out _ (ndT_in (hM.thing _ HR.out)) hM.below).mono ?_
    rintro e w1 ⟨rfl, hb⟩
    replace hM := hM.step hb
    clear hb hS
    have hS := HeldM.of (hM.subL (L' := [⟨g, 90, 35, X⟩]) (List.Sublist.cons _ (List.Sublist.cons_cons _ (List.nil_sublist _))))
    go_wp2_with fail
    refine then_normal ⟨hS, ?_⟩
    refine wpAllH_takes [10, 11, 12] (by kernel_rfl) (fun _ _ _ _ _ h => h) hS (by kernel_rfl) ?_
    simp only [pickOps, List.filterMap_cons, List.filterMap_nil, List.getElem?_cons_zero, List.getElem?_cons_succ]
    repeat ((with_reducible apply wpHeld_step); (· rfl); (· (intro w hSw; first | (go_simp; rfl) | (fail))); intro K hK; go_simp; (with_reducible refine hK _ ?_); clear hK K)
    refine wpHeld_nil ?_
    refine wpAllH_one 13 rfl (by kernel_rfl) ?_
    refine slz hM ?_ (hz := zero_pub)
    clear hM hS
    intro g9 wz hM
    have hS := HeldM.of (hM.subL (L' := [⟨g, 90, 35, X⟩]) (List.Sublist.cons _ (List.Sublist.cons _ (List.Sublist.cons_cons _ (List.nil_sublist _)))))
    refine wpList_then ⟨hS, ?_⟩
    refine wpAllH_one 14 rfl (by kernel_rfl) ?_
    refine slw hM ?_ (hs := pubC_size _ _) (h1 := pubC_one _ _) (hty := row_pub)
    clear hM hS
    intro wy hM
    have hS := HeldM.of (hM.subL (L' := [⟨g, 90, 35, X⟩]) (List.Sublist.cons _ (List.Sublist.cons _ (List.Sublist.cons_cons _ (List.nil_sublist _)))))
    refine wpList_then ⟨hS, ?_⟩
    refine wpAllH_takes [15] (by kernel_rfl) (fun _ _ _ _ _ h => h) hS (by kernel_rfl) ?_
    simp only [pickOps, List.filterMap_cons, List.filterMap_nil, List.getElem?_cons_zero, List.getElem?_cons_succ]
    repeat ((with_reducible apply wpHeld_step); (· rfl); (· (intro w hSw; first | (go_simp; rfl) | (fail))); intro K hK; go_simp; (with_reducible refine hK _ ?_); clear hK K)
    refine wpHeld_nil ?_
    refine wpAllH_done (by kernel_rfl) ?_
    clear hS
    go_wp2_with (first | ((with_reducible refine at_load ?_); refine sll hM ?_ (hty := row_pub)) | ((with_reducible refine at_store ?_); refine slw hM ?_ (hs := pubC_size _ _) (h1 := pubC_one _ _) (hty := row_pub); clear hM; intro wx hM))
    exact bodyPost_ret (results_mem_cell hM rfl (by rfl) (by repeat (first | exact List.Mem.head _ | apply List.Mem.tail)) row_pub) rfl ⟨rfl, hM.subL (List.Sublist.cons _ (List.Sublist.cons _ (List.Sublist.refl _)))⟩
  · refine slz hM ?_ (hz := zero_pub)
    clear hM hS
    intro g9 wz hM
    have hS := HeldM.of (hM.subL (L' := [⟨g, 90, 35, X⟩]) (List.Sublist.cons _ (List.Sublist.cons _ (List.Sublist.cons_cons _ (List.nil_sublist _)))))
    refine wpList_then ⟨hS, ?_⟩
    refine wpAllH_one 9 rfl (by kernel_rfl) ?_
    go_wp2_with fail
    refine (HP.out _ (ndT_in (hM.thing _ HR.out)) hM.below).mono ?_
    rintro e w1 ⟨rfl, hb⟩
    replace hM := hM.step hb
    clear hb hS
    have hS := HeldM.of (hM.subL (L' := [⟨g, 90, 35, X⟩]) (List.Sublist.cons _ (List.Sublist.cons _ (List.Sublist.cons_cons _ (List.nil_sublist _)))))
    go_wp2_with fail
    refine then_normal ⟨hS, ?_⟩
    refine wpAllH_takes [10, 11, 12] (by kernel_rfl) (fun _ _ _ _ _ h => h) hS (by kernel_rfl) ?_
    simp only [pickOps, List.filterMap_cons, List.filterMap_nil, List.getElem?_cons_zero, List.getElem?_cons_succ]
    repeat ((with_reducible apply wpHeld_step); (· rfl); (· (intro w hSw; first | (go_simp; rfl) | (fail))); intro K hK; go_simp; (with_reducible refine hK _ ?_); clear hK K)
    refine wpHeld_nil ?_
    refine wpAllH_one 14 rfl (by kernel_rfl) ?_
    refine slw hM ?_ (hs := pubC_size _ _) (h1 := pubC_one _ _) (hty := row_pub)
    clear hM hS
    intro wy hM
    have hS := HeldM.of (hM.subL (L' := [⟨g, 90, 35, X⟩]) (List.Sublist.cons _ (List.Sublist.cons _ (List.Sublist.cons_cons _ (List.nil_sublist _)))))
    refine wpList_then ⟨hS, ?_⟩
    refine wpAllH_takes [15] (by kernel_rfl) (fun _ _ _ _ _ h => h) hS (by kernel_rfl) ?_
    simp only [pickOps, List.filterMap_cons, List.filterMap_nil, List.getElem?_cons_zero, List.getElem?_cons_succ]
    repeat ((with_reducible apply wpHeld_step); (· rfl); (· (intro w hSw; first | (go_simp; rfl) | (fail))); intro K hK; go_simp; (with_reducible refine hK _ ?_); clear hK K)
    refine wpHeld_nil ?_
    refine wpAllH_done (by kernel_rfl) ?_
    clear hS
    go_wp2_with (first | ((with_reducible refine at_load ?_); refine sll hM ?_ (hty := row_pub)) | ((with_reducible refine at_store ?_); refine slw hM ?_ (hs := pubC_size _ _) (h1 := pubC_one _ _) (hty := row_pub); clear hM; intro wx hM))
    exact bodyPost_ret (results_mem_cell hM rfl (by rfl) (by repeat (first | exact List.Mem.head _ | apply List.Mem.tail)) row_pub) rfl ⟨rfl, hM.subL (List.Sublist.cons _ (List.Sublist.cons _ (List.Sublist.refl _)))⟩
end Go.Proofs.YtbbdnlcjjcmllaaDoor
namespace Go.Proofs.YtbbdnlcjjcmllaaDoor
open Go Go.RowKit Go.Bul Go.Thg Go.Lin
theorem rc_sig (s : Sd) (k : Nat) (d : Nd) : rcN k d (sgCh s k d) = pvN s k := by
  apply Nd.ext'
  show comp k (lastV k d.val (valuesV s.val k fun i => (split d.val).getD i 0)) = comp k (valuesV s.val k fun _ => 15)
  rw [last_of_values d.byt]
theorem rootN_pow {l : List Nd} {h : Nat} (hl : l.length = 2 ^ h) (hh : h ≤ 8) : rootN l = rootH l h := by
  obtain ⟨h1, h2⟩ := chkE_pow (show h ≤ 10 by omega) hl
  unfold rootN
  rw [if_pos h1, hl, Nat.log2_two_pow]
theorem lvs_node (s : Sd) (n k : Nat) (hk : k < n) : nodeN (lvsN s n) 0 k = lfN s k := by
  rw [← leaf_get _ _ (by rw [lvsN_length]; exact hk)]
  simp [lvsN]
theorem root_sig (s : Sd) (h k : Nat) (d : Nd) (hh : h ≤ 8) (hk : k < 2 ^ h) : rootS k d (sgCh s k d) (sibsF (lvsN s (2 ^ h)) k h) = rtN s h := by
  unfold rootS rtN
  rw [rc_sig, show leafN (k : Int) (pvN s k).val = lfN s k from rfl, ← lvs_node s (2 ^ h) k hk, path_leads _ h k (lvsN_length _ _) (by omega) hk, rootN_pow (lvsN_length _ _) hh]
theorem hE_ok {h : Nat} (h1 : 1 ≤ h) (hh : h ≤ 8) : hE (h : Nat) = 0 := by unfold hE; rw [if_pos (by omega)]
theorem sgE_ok {h k : Nat} (h1 : 1 ≤ h) (hh : h ≤ 8) (hk : k < 2 ^ h) : sgE (k : Nat) h = 0 := by
  unfold sgE
  rw [if_pos]
  refine ⟨hE_ok h1 hh, Int.natCast_nonneg _, ?_⟩
  rw [show (2 : Int) ^ h = ((2 ^ h : Nat) : Int) by simp]
  omega
theorem ver_sig (s : Sd) (h k : Nat) (d : Nd) (h1 : 1 ≤ h) (hh : h ≤ 8) (hk : k < 2 ^ h) : verE (h : Nat) (rtN s h) d (k : Nat) (sgCh s k d) h (sibsF (lvsN s (2 ^ h)) k h) = 0 := by
  unfold verE
  rw [if_neg (by rw [hE_ok h1 hh]; decide), if_neg (by rw [sgE_ok h1 hh hk]; decide), if_pos ⟨rfl, by rw [Int.toNat_natCast, root_sig s h k d hh hk]⟩]
/-- The digest of the examples. -/
def d1 : Nd := ⟨1 :: Go.Thg.zeros 15, rfl, by intro x hx; rcases List.mem_cons.1 hx with rfl | hx; · decide
                                              · have := List.eq_of_mem_replicate hx; omega⟩
def d2 : Nd := ⟨2 :: Go.Thg.zeros 15, rfl, by intro x hx; rcases List.mem_cons.1 hx with rfl | hx; · decide
                                              · have := List.eq_of_mem_replicate hx; omega⟩
set_option maxRecDepth 20000 in
theorem run_sec1 (w : World) : (Instr.build 28 #[(1, .int .i64 1)]).run Tryd.prog w = .ok (.agg (secC sd0 1)) w := by kernel_rfl
theorem run_d1 (w : World) : (Instr.build 23 #[(0, .int .u8 1)]).run Tryd.prog w = .ok (.agg (ndC d1)) w := by kernel_rfl
theorem run_d2 (w : World) : (Instr.build 23 #[(0, .int .u8 2)]).run Tryd.prog w = .ok (.agg (ndC d2)) w := by kernel_rfl
end Go.Proofs.YtbbdnlcjjcmllaaDoor
