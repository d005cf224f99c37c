/- Contract of use of a Signer. -/
import Derived.Test.YtbbdnlcjjcmllaaDoorSgj
namespace Go.Proofs.YtbbdnlcjjcmllaaDoor
open Go Go.RowKit Go.Bul Go.Thg Go.Lin
set_option maxRecDepth 20000 in
set_option maxHeartbeats 4000000 in
theorem use_any {w0 w : World} {L : List Ent} {R : List Thing} {g : Nat} (s : Sd) (h : Nat) (A : Option Addr) (n c : Nat) (next : Int) (lv : List Nd) (k : Nat) (d : Nd) (hM : Mem [] w0 (⟨g, 90, 35, sgrC s (h : Nat) A n c next⟩ :: L) R w) (hR : ndT (.slice A n c) lv ∈ R)
    (h1 : 1 ≤ h) (hh : h ≤ 8) (hn : lv.length = 2 ^ h) (hk : k < 2 ^ h) (hT : Tab w0) :
    Calls Tryd.prog 39 #[.pointer (some ⟨g, 0, none⟩), .int .i64 (k : Nat), .agg (ndC d)] w fun e w' => ∃ B c', e = .returned (.tuple #[.agg (sigC (k : Nat) (sgCh s k d) B h c'), .int .i64 0]) ∧ Mem [] w0 (⟨g, 90, 35, sgrC s (h : Nat) A n c ((k : Int) + 1)⟩ :: L) (p16T (.slice B h c') (sibsF lv k h) :: R) w' := by
  have hp : 2 ^ h ≤ 2 ^ 8 := Nat.pow_le_pow_right (by decide) hh
  have HR := Lib.hid hR
  have HC := Lib.hid (fun w => scheck_any s (h : Nat) w)
  rw [show hE (h : Nat) = 0 by unfold hE; rw [if_pos (by omega)]] at HC
  have HSN := Lib.hid (fun w' (hr : NIn w' A n lv) (hb : Below w0.heap.size w0 w') => ssign_yes s (h : Nat) A n c lv k h d w' hr hn (by omega) hk (hT.keep hb))
  have HSS := Lib.hid (sgrC_s s (h : Nat) A n c next)
  have H33 := Lib.hid (sgrC_l s (h : Nat) A n c next)
  have HSET := Lib.hid (sgrC_setn s (h : Nat) A n c next ((k : Int) + 1))
  have hw : IntKind.i64.wrap ((k : Int) + 1) = (k : Int) + 1 := IntWalk.i64_in _ ⟨by omega, by omega⟩
  have k0 : (0 : Int) ≤ (k : Int) := Int.natCast_nonneg _
  generalize sgCh s k d = ch at HSN ⊢
  generalize sibsF lv k h = P at HSN ⊢
  generalize sgrC s (h : Nat) A n c ((k : Int) + 1) = X2 at HSET ⊢
  generalize sgrC s (h : Nat) A n c next = X at hM HSS H33 HSET
  generalize secC s (h : Nat) = XS at HC HSN HSS
  clear hR h1 hh hn hk hT hp
  go_enter Tryd.func39, Tryd.ntmps39
  go_upto_region 4 with (first | ((with_reducible refine at_box ?_); refine slb hM ?_ (hty := row_a16) (hn := ndC_size _); clear hM; intro g5 w1 hM) | ((with_reducible refine at_alloc ?_); refine slz hM ?_ (hz := zero_sgn); clear hM; intro g6 w1 hM) | ((with_reducible refine (HC.out _).mono ?_); rintro e w1 ⟨rfl, hb⟩; replace hM := hM.step hb; clear hb) | ((with_reducible refine at_load ?_); refine slp hM ?_ (hX := HSS.out) (hty := row_sec)))
  obtain ⟨g6, hg6⟩ := hM.name1
  obtain ⟨g5, hg5⟩ := (hM.subL (List.sublist_cons_self _ _)).name1
  subst hg6 hg5
  refine wp_region_allHM hM (HeldM [⟨g5, 23, 16, ndC d⟩, ⟨g, 90, 35, X⟩]) (by kernel_rfl) ?_
  clear hM
  intro wd hM
  have hS := HeldM.of (hM.subL (L' := [⟨g5, 23, 16, ndC d⟩, ⟨g, 90, 35, X⟩]) (List.Sublist.cons _ (List.Sublist.cons_cons _ (List.Sublist.cons_cons _ (List.nil_sublist _)))))
  refine wpAllH_takes [0, 1, 2, 4, 5, 6, 8, 3, 7, 9] (by kernel_rfl) (fun _ _ _ _ _ h => h) hS (by kernel_rfl) ?_
  simp only [pickOps, List.filterMap_cons, List.filterMap_nil, List.getElem?_cons_zero, List.getElem?_cons_succ]
  repeat ((with_reducible apply wpHeld_step); (· rfl); (· (intro w hSw; first | (go_simp; rfl) | ((obtain ⟨_, _, _, hM'⟩ := hSw; first | exact yields_load (C := fun _ => True) (sqc hM' (hv := H33.out)) rfl | exact yields_load (C := fun _ => True) (sqp hM' (hX := HSS.out) (hty := row_sec)) rfl | exact yields_load (C := fun _ => True) (sql hM' (hty := row_a16)) rfl)))); intro K hK; go_simp; (with_reducible refine hK _ ?_); clear hK K)
  refine wpHeld_nil ?_
  refine wpAllH_two 10 14 rfl rfl (by kernel_rfl) ?_ ?_
  · go_wp2_with fail
    refine (HSN.out _ (ndT_in (hM.thing _ HR.out)) hM.below).mono ?_
    rintro e w1 ⟨B, c', rfl, hb⟩
    replace hM := hM.newThing hb
    clear hb hS
    have hS := HeldM.of (hM.subL (L' := [⟨g5, 23, 16, ndC d⟩, ⟨g, 90, 35, X⟩]) (List.Sublist.cons _ (List.Sublist.cons_cons _ (List.Sublist.cons_cons _ (List.nil_sublist _)))))
    go_wp2_with fail
    refine then_normal ⟨hS, ?_⟩
    refine wpAllH_takes [11, 12, 13] (by kernel_rfl) (fun _ _ _ _ _ h => h) hS (by kernel_rfl) ?_
    simp only [pickOps, List.filterMap_cons, List.filterMap_nil, List.getElem?_cons_zero, List.getElem?_cons_succ]
    repeat ((with_reducible apply wpHeld_step); (· rfl); (· (intro w hSw; first | (go_simp; rfl) | (fail))); intro K hK; go_simp; (with_reducible refine hK _ ?_); clear hK K)
    refine wpHeld_nil ?_
    refine wpAllH_one 14 rfl (by kernel_rfl) ?_
    refine slz hM ?_ (hz := zero_sgn)
    clear hM hS
    intro g9 wz hM
    have hS := HeldM.of (hM.subL (L' := [⟨g5, 23, 16, ndC d⟩, ⟨g, 90, 35, X⟩]) (List.Sublist.cons _ (List.Sublist.cons _ (List.Sublist.cons_cons _ (List.Sublist.cons_cons _ (List.nil_sublist _))))))
    refine wpList_then ⟨hS, ?_⟩
    refine wpAllH_one 15 rfl (by kernel_rfl) ?_
    refine slw hM ?_ (hs := sigC_size _ _ _ _ _) (h1 := sigC_one _ _ _ _ _) (hty := row_sgn)
    clear hM hS
    intro wy hM
    have hS := HeldM.of (hM.subL (L' := [⟨g5, 23, 16, ndC d⟩, ⟨g, 90, 35, X⟩]) (List.Sublist.cons _ (List.Sublist.cons _ (List.Sublist.cons_cons _ (List.Sublist.cons_cons _ (List.nil_sublist _))))))
    refine wpList_then ⟨hS, ?_⟩
    refine wpAllH_takes [16] (by kernel_rfl) (fun _ _ _ _ _ h => h) hS (by kernel_rfl) ?_
    simp only [pickOps, List.filterMap_cons, List.filterMap_nil, List.getElem?_cons_zero, List.getElem?_cons_succ]
    repeat ((with_reducible apply wpHeld_step); (· rfl); (· (intro w hSw; first | (go_simp; rfl) | (fail))); intro K hK; go_simp; (with_reducible refine hK _ ?_); clear hK K)
    refine wpHeld_nil ?_
    refine wpAllH_done (by kernel_rfl) ?_
    clear hS
    go_wp2_with (first | ((with_reducible refine at_store ?_); first | (refine sls hM ?_ (hX := HSET.out); clear hM; intro wx hM) | (refine slw hM ?_ (hs := sigC_size _ _ _ _ _) (h1 := sigC_one _ _ _ _ _) (hty := row_sgn); clear hM; intro wx hM)) | ((with_reducible refine at_load ?_); refine sll hM ?_ (hty := row_sgn)))
    exact bodyPost_ret (results_mem_cell_tmp hM rfl (by rfl) (by repeat (first | exact List.Mem.head _ | apply List.Mem.tail)) row_sgn (by rfl)) rfl ⟨B, c', rfl, hM.subL (List.Sublist.cons _ (List.Sublist.cons _ (List.Sublist.cons _ (List.Sublist.refl _))))⟩
  · refine slz hM ?_ (hz := zero_sgn)
    clear hM hS
    intro g9 wz hM
    have hS := HeldM.of (hM.subL (L' := [⟨g5, 23, 16, ndC d⟩, ⟨g, 90, 35, X⟩]) (List.Sublist.cons _ (List.Sublist.cons _ (List.Sublist.cons_cons _ (List.Sublist.cons_cons _ (List.nil_sublist _))))))
    refine wpList_then ⟨hS, ?_⟩
    refine wpAllH_one 10 rfl (by kernel_rfl) ?_
    go_wp2_with fail
    refine (HSN.out _ (ndT_in (hM.thing _ HR.out)) hM.below).mono ?_
    rintro e w1 ⟨B, c', rfl, hb⟩
    replace hM := hM.newThing hb
    clear hb hS
    have hS := HeldM.of (hM.subL (L' := [⟨g5, 23, 16, ndC d⟩, ⟨g, 90, 35, X⟩]) (List.Sublist.cons _ (List.Sublist.cons _ (List.Sublist.cons_cons _ (List.Sublist.cons_cons _ (List.nil_sublist _))))))
    go_wp2_with fail
    refine then_normal ⟨hS, ?_⟩
    refine wpAllH_takes [11, 12, 13] (by kernel_rfl) (fun _ _ _ _ _ h => h) hS (by kernel_rfl) ?_
    simp only [pickOps, List.filterMap_cons, List.filterMap_nil, List.getElem?_cons_zero, List.getElem?_cons_succ]
    repeat ((with_reducible apply wpHeld_step); (· rfl); (· (intro w hSw; first | (go_simp; rfl) | (fail))); intro K hK; go_simp; (with_reducible refine hK _ ?_); clear hK K)
    refine wpHeld_nil ?_
    refine wpAllH_one 15 rfl (by kernel_rfl) ?_
    refine slw hM ?_ (hs := sigC_size _ _ _ _ _) (h1 := sigC_one _ _ _ _ _) (hty := row_sgn)
    clear hM hS
    intro wy hM
    have hS := HeldM.of (hM.subL (L' := [⟨g5, 23, 16, ndC d⟩, ⟨g, 90, 35, X⟩]) (List.Sublist.cons _ (List.Sublist.cons _ (List.Sublist.cons_cons _ (List.Sublist.cons_cons _ (List.nil_sublist _))))))
    refine wpList_then ⟨hS, ?_⟩
    refine wpAllH_takes [16] (by kernel_rfl) (fun _ _ _ _ _ h => h) hS (by kernel_rfl) ?_
    simp only [pickOps, List.filterMap_cons, List.filterMap_nil, List.getElem?_cons_zero, List.getElem?_cons_succ]
    repeat ((with_reducible apply wpHeld_step); (· rfl); (· (intro w hSw; first | (go_simp; rfl) | (fail))); intro K hK; go_simp; (with_reducible refine hK _ ?_); clear hK K)
    refine wpHeld_nil ?_
    refine wpAllH_done (by kernel_rfl) ?_
    clear hS
    go_wp2_with (first | ((with_reducible refine at_store ?_); first | (refine sls hM ?_ (hX := HSET.out); clear hM; intro wx hM) | (refine slw hM ?_ (hs := sigC_size _ _ _ _ _) (h1 := sigC_one _ _ _ _ _) (hty := row_sgn); clear hM; intro wx hM)) | ((with_reducible refine at_load ?_); refine sll hM ?_ (hty := row_sgn)))
    exact bodyPost_ret (results_mem_cell_tmp hM rfl (by rfl) (by repeat (first | exact List.Mem.head _ | apply List.Mem.tail)) row_sgn (by rfl)) rfl ⟨B, c', rfl, hM.subL (List.Sublist.cons _ (List.Sublist.cons _ (List.Sublist.cons _ (List.Sublist.refl _))))⟩
end Go.Proofs.YtbbdnlcjjcmllaaDoor
