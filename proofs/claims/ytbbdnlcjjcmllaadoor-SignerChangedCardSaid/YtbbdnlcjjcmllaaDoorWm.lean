/- Contract of the package's Sign. Contract of use of a Signer. Contracts of a Signer: Sign, Public, Next. -/
import Derived.Test.YtbbdnlcjjcmllaaDoorWl
namespace Go.Proofs.YtbbdnlcjjcmllaaDoor
open Go Go.RowKit Go.Bul Go.Thg Go.Lin
set_option maxRecDepth 20000 in
set_option maxHeartbeats 4000000 in
theorem psign_yes (s : Sd) (h k : Nat) (d : Nd) (w : World) (h1 : 1 ≤ h) (hh : h ≤ 8) (hk : k < 2 ^ h) (hT : Tab w) :
    Calls Tryd.prog 8 #[.agg (secC s (h : Nat)), .int .i64 (k : Nat), .agg (ndC d)] w fun e w' => ∃ B c', e = .returned (.tuple #[.agg (sigC (k : Nat) (sgCh s k d) B h c'), .int .i64 0]) ∧ Becomes [] w (p16T (.slice B h c') (sibsF (lvsN s (2 ^ h)) k h)) w' := by
  have hM := Mem.start [] w
  have hp : 2 ^ h ≤ 2 ^ 8 := Nat.pow_le_pow_right (by decide) hh
  have hp2 : (2 : Int) ^ h = ((2 ^ h : Nat) : Int) := by simp
  have c4 : wrap64 ((2 : Int) ^ h) = (2 : Int) ^ h := by rw [hp2]; have := Int.natCast_nonneg (2 ^ h); unfold wrap64; omega
  have HS := Lib.hid (secC_size s (h : Nat))
  have HH := Lib.hid (secC_h s (h : Nat))
  have HC := Lib.hid (fun w => scheck_any s (h : Nat) w)
  rw [show hE (h : Nat) = 0 by unfold hE; rw [if_pos (by omega)]] at HC
  have HL := Lib.hid (fun w' (hb : Below w.heap.size w w') => leaves_any s h w' hh (hT.keep hb))
  have HSN := Lib.hid (fun A c w' (hr : NIn w' A (2 ^ h) (lvsN s (2 ^ h))) (hb : Below w.heap.size w w') => ssign_yes s (h : Nat) A (2 ^ h) c (lvsN s (2 ^ h)) k h d w' hr (lvsN_length _ _) (by omega) hk (hT.keep hb))
  have r1 : decide ((k : Int) < 0) = false := decide_eq_false (by omega)
  have r2 : decide ((2 : Int) ^ h ≤ (k : Int)) = false := decide_eq_false (by omega)
  have q0 : (0 : Int) ≤ (h : Int) := Int.natCast_nonneg _
  have q1 : (h : Int) ≤ 8 := by omega
  generalize sgCh s k d = ch at HSN ⊢
  generalize sibsF (lvsN s (2 ^ h)) k h = P at HSN ⊢
  generalize lvsN s (2 ^ h) = LV at HL HSN
  clear hk hp hp2 h1 hh hT
  generalize 2 ^ h = N at HL HSN
  generalize secC s (h : Nat) = X at HS HH HC HL HSN ⊢
  go_enter Tryd.func8, Tryd.ntmps8
  go_upto_region 6 with (first | ((with_reducible refine at_box ?_); first | (refine slb hM ?_ (hty := row_sec) (hn := HS.out); clear hM; intro g3 w1 hM) | (refine slb hM ?_ (hty := row_a16) (hn := ndC_size _); clear hM; intro g5 w1 hM)) | ((with_reducible refine at_alloc ?_); refine slz hM ?_ (hz := zero_sgn); clear hM; intro g6 w1 hM) | ((with_reducible refine (HC.out _).mono ?_); rintro e w1 ⟨rfl, hb⟩; replace hM := hM.step hb; clear hb) | ((first | with_reducible refine at_load ?_ | ((with_reducible refine at_load_g ?_ ?_); (· rfl))); first | refine slc hM ?_ (hv := HH.out) | refine sll hM ?_ (hty := row_sec)))
  obtain ⟨g6, hg6⟩ := hM.name1
  obtain ⟨g5, hg5⟩ := (hM.subL (List.sublist_cons_self _ _)).name1
  obtain ⟨g3, hg3⟩ := (hM.subL (List.Sublist.cons _ (List.sublist_cons_self _ _))).name1
  subst hg6 hg5 hg3
  refine wp_region_allHM hM (HeldM [⟨g5, 23, 16, ndC d⟩, ⟨g3, 28, 33, X⟩]) (by kernel_rfl) ?_
  clear hM
  intro wd hM
  have hS := HeldM.of (hM.subL (L' := [⟨g5, 23, 16, ndC d⟩, ⟨g3, 28, 33, X⟩]) (List.sublist_cons_self _ _))
  refine wpAllH_takes [3, 0, 1, 4] (by kernel_rfl) (fun _ _ _ _ _ h => h) hS (by kernel_rfl) ?_
  simp only [pickOps, List.filterMap_cons, List.filterMap_nil, List.getElem?_cons_zero, List.getElem?_cons_succ]
  repeat ((with_reducible apply wpHeld_step); (· rfl); (· (intro w hSw; first | (go_simp; rfl) | ((obtain ⟨_, _, _, hM'⟩ := hSw; first | exact yields_load (C := fun _ => True) (sql hM' (hty := row_sec)) rfl | exact yields_load (C := fun _ => True) (sql hM' (hty := row_a16)) rfl)))); intro K hK; go_simp; (with_reducible refine hK _ ?_); clear hK K)
  refine wpHeld_nil ?_
  refine wpAllH_one 2 rfl (by kernel_rfl) ?_
  go_wp2_with fail
  refine (HL.out _ hM.below).mono ?_
  rintro e w1 ⟨A, c, rfl, hb⟩
  replace hM := hM.newThing hb
  clear hb hS
  have hS := HeldM.of (hM.subL (L' := [⟨g5, 23, 16, ndC d⟩, ⟨g3, 28, 33, X⟩]) (List.sublist_cons_self _ _))
  go_wp2_with fail
  refine then_normal ⟨hS, ?_⟩
  refine wpAllH_one 5 rfl (by kernel_rfl) ?_
  go_wp2_with fail
  refine (HSN.out _ _ _ (ndT_in (hM.thing _ (List.Mem.head _))) hM.below).mono ?_
  rintro e w1 ⟨B, c', rfl, hb⟩
  replace hM := hM.newThing hb
  clear hb hS
  have hS := HeldM.of (hM.subL (L' := [⟨g5, 23, 16, ndC d⟩, ⟨g3, 28, 33, X⟩]) (List.sublist_cons_self _ _))
  go_wp2_with fail
  refine then_normal ⟨hS, ?_⟩
  refine wpAllH_takes [6, 7] (by kernel_rfl) (fun _ _ _ _ _ h => h) hS (by kernel_rfl) ?_
  simp only [pickOps, List.filterMap_cons, List.filterMap_nil, List.getElem?_cons_zero, List.getElem?_cons_succ]
  repeat ((with_reducible apply wpHeld_step); (· rfl); (· (intro w hSw; first | (go_simp; rfl) | (fail))); intro K hK; go_simp; (with_reducible refine hK _ ?_); clear hK K)
  refine wpHeld_nil ?_
  refine wpAllH_one 8 rfl (by kernel_rfl) ?_
  refine slw hM ?_ (hs := sigC_size _ _ _ _ _) (h1 := sigC_one _ _ _ _ _) (hty := row_sgn)
  clear hM hS
  intro wy hM
  have hS := HeldM.of (hM.subL (L' := [⟨g5, 23, 16, ndC d⟩, ⟨g3, 28, 33, X⟩]) (List.sublist_cons_self _ _))
  refine wpList_then ⟨hS, ?_⟩
  refine wpAllH_takes [9] (by kernel_rfl) (fun _ _ _ _ _ h => h) hS (by kernel_rfl) ?_
  simp only [pickOps, List.filterMap_cons, List.filterMap_nil, List.getElem?_cons_zero, List.getElem?_cons_succ]
  repeat ((with_reducible apply wpHeld_step); (· rfl); (· (intro w hSw; first | (go_simp; rfl) | (fail))); intro K hK; go_simp; (with_reducible refine hK _ ?_); clear hK K)
  refine wpHeld_nil ?_
  refine wpAllH_done (by kernel_rfl) ?_
  clear hS
  go_wp2_with fail
  have hb := (hM.subL (List.nil_sublist _)).becomes (List.Mem.head _)
  exact bodyPost_ret (results_mem_cell_tmp hM rfl (by rfl) (by repeat (first | exact List.Mem.head _ | apply List.Mem.tail)) row_sgn (by rfl)) rfl ⟨B, c', rfl, hb⟩
end Go.Proofs.YtbbdnlcjjcmllaaDoor
namespace Go.Proofs.YtbbdnlcjjcmllaaDoor
open Go Go.RowKit Go.Bul Go.Thg Go.Lin
set_option maxRecDepth 20000 in
set_option maxHeartbeats 4000000 in
theorem use_any {w0 w : World} {L : List Ent} {R : List Thing} {g : Nat} (s : Sd) (h : Nat) (A : Option Addr) (n c : Nat) (next : Int) (lv : List Nd) (k : Nat) (d : Nd) (hM : Mem [] w0 (⟨g, 90, 35, sgrC s (h : Nat) A n c next⟩ :: L) R w) (hR : ndT (.slice A n c) lv ∈ R)
    (h1 : 1 ≤ h) (hh : h ≤ 8) (hn : lv.length = 2 ^ h) (hk : k < 2 ^ h) (hT : Tab w0) :
    Calls Tryd.prog 39 #[.pointer (some ⟨g, 0, none⟩), .int .i64 (k : Nat), .agg (ndC d)] w fun e w' => ∃ B c', e = .returned (.tuple #[.agg (sigC (k : Nat) (sgCh s k d) B h c'), .int .i64 0]) ∧ Mem [] w0 (⟨g, 90, 35, sgrC s (h : Nat) A n c ((k : Int) + 1)⟩ :: L) (p16T (.slice B h c') (sibsF lv k h) :: R) w' := by
  have hp : 2 ^ h ≤ 2 ^ 8 := Nat.pow_le_pow_right (by decide) hh
  have HR := Lib.hid hR
  have HC := Lib.hid (fun w => scheck_any s (h : Nat) w)
  rw [show hE (h : Nat) = 0 by unfold hE; rw [if_pos (by omega)]] at HC
  have HSN := Lib.hid (fun w' (hr : NIn w' A n lv) (hb : Below w0.heap.size w0 w') => ssign_yes s (h : Nat) A n c lv k h d w' hr hn (by omega) hk (hT.keep hb))
  have HSS := Lib.hid (sgrC_s s (h : Nat) A n c next)
  have H33 := Lib.hid (sgrC_l s (h : Nat) A n c next)
  have HSET := Lib.hid (sgrC_setn s (h : Nat) A n c next ((k : Int) + 1))
  have hw : IntKind.i64.wrap ((k : Int) + 1) = (k : Int) + 1 := IntWalk.i64_in _ ⟨by omega, by omega⟩
  have k0 : (0 : Int) ≤ (k : Int) := Int.natCast_nonneg _
  generalize sgCh s k d = ch at HSN ⊢
  generalize sibsF lv k h = P at HSN ⊢
  generalize sgrC s (h : Nat) A n c ((k : Int) + 1) = X2 at HSET ⊢
  generalize sgrC s (h : Nat) A n c next = X at hM HSS H33 HSET
  generalize secC s (h : Nat) = XS at HC HSN HSS
  clear hR h1 hh hn hk hT hp
  go_enter Tryd.func39, Tryd.ntmps39
  go_upto_region 4 with (first | ((with_reducible refine at_box ?_); refine slb hM ?_ (hty := row_a16) (hn := ndC_size _); clear hM; intro g5 w1 hM) | ((with_reducible refine at_alloc ?_); refine slz hM ?_ (hz := zero_sgn); clear hM; intro g6 w1 hM) | ((with_reducible refine (HC.out _).mono ?_); rintro e w1 ⟨rfl, hb⟩; replace hM := hM.step hb; clear hb) | ((with_reducible refine at_load ?_); refine slp hM ?_ (hX := HSS.out) (hty := row_sec)))
  obtain ⟨g6, hg6⟩ := hM.name1
  obtain ⟨g5, hg5⟩ := (hM.subL (List.sublist_cons_self _ _)).name1
  subst hg6 hg5
  refine wp_region_allHM hM (HeldM [⟨g5, 23, 16, ndC d⟩, ⟨g, 90, 35, X⟩]) (by kernel_rfl) ?_
  clear hM
  intro wd hM
  have hS := HeldM.of (hM.subL (L' := [⟨g5, 23, 16, ndC d⟩, ⟨g, 90, 35, X⟩]) (List.Sublist.cons _ (List.Sublist.cons_cons _ (List.Sublist.cons_cons _ (List.nil_sublist _)))))
  refine wpAllH_takes [0, 1, 2, 4, 5, 6, 8, 3, 7, 9] (by kernel_rfl) (fun _ _ _ _ _ h => h) hS (by kernel_rfl) ?_
  simp only [pickOps, List.filterMap_cons, List.filterMap_nil, List.getElem?_cons_zero, List.getElem?_cons_succ]
  repeat ((with_reducible apply wpHeld_step); (· rfl); (· (intro w hSw; first | (go_simp; rfl) | ((obtain ⟨_, _, _, hM'⟩ := hSw; first | exact yields_load (C := fun _ => True) (sqc hM' (hv := H33.out)) rfl | exact yields_load (C := fun _ => True) (sqp hM' (hX := HSS.out) (hty := row_sec)) rfl | exact yields_load (C := fun _ => True) (sql hM' (hty := row_a16)) rfl)))); intro K hK; go_simp; (with_reducible refine hK _ ?_); clear hK K)
  refine wpHeld_nil ?_
  refine wpAllH_two 10 14 rfl rfl (by kernel_rfl) ?_ ?_
  · go_wp2_with fail
    refine (HSN.out _ (ndT_in (hM.thing _ HR.out)) hM.below).mono ?_
    rintro e w1 ⟨B, c', rfl, hb⟩
    replace hM := hM.newThing hb
    clear hb hS
    have hS := HeldM.of (hM.subL (L' := [⟨g5, 23, 16, ndC d⟩, ⟨g, 90, 35, X⟩]) (List.Sublist.cons _ (List.Sublist.cons_cons _ (List.Sublist.cons_cons _ (List.nil_sublist _)))))
    go_wp2_with fail
    refine then_normal ⟨hS, ?_⟩
    refine wpAllH_takes [11, 12, 13] (by kernel_rfl) (fun _ _ _ _ _ h => h) hS (by kernel_rfl) ?_
    simp only [pickOps, List.filterMap_cons, List.filterMap_nil, List.getElem?_cons_zero, List.getElem?_cons_succ]
    repeat ((with_reducible apply wpHeld_step); (· rfl); (· (intro w hSw; first | (go_simp; rfl) | (fail))); intro K hK; go_simp; (with_reducible refine hK _ ?_); clear hK K)
    refine wpHeld_nil ?_
    refine wpAllH_one 14 rfl (by kernel_rfl) ?_
    refine slz hM ?_ (hz := zero_sgn)
    clear hM hS
    intro g9 wz hM
    have hS := HeldM.of (hM.subL (L' := [⟨g5, 23, 16, ndC d⟩, ⟨g, 90, 35, X⟩]) (List.Sublist.cons _ (List.Sublist.cons _ (List.Sublist.cons_cons _ (List.Sublist.cons_cons _ (List.nil_sublist _))))))
    refine wpList_then ⟨hS, ?_⟩
    refine wpAllH_one 15 rfl (by kernel_rfl) ?_
    refine slw hM ?_ (hs := sigC_size _ _ _ _ _) (h1 := sigC_one _ _ _ _ _) (hty := row_sgn)
    clear hM hS
    intro wy hM
    have hS := HeldM.of (hM.subL (L' := [⟨g5, 23, 16, ndC d⟩, ⟨g, 90, 35, X⟩]) (List.Sublist.cons _ (List.Sublist.cons _ (List.Sublist.cons_cons _ (List.Sublist.cons_cons _ (List.nil_sublist _))))))
    refine wpList_then ⟨hS, ?_⟩
    refine wpAllH_takes [16] (by kernel_rfl) (fun _ _ _ _ _ h => h) hS (by kernel_rfl) ?_
    simp only [pickOps, List.filterMap_cons, List.filterMap_nil, List.getElem?_cons_zero, List.getElem?_cons_succ]
    repeat ((with_reducible apply wpHeld_step); (· rfl); (· (intro w hSw; first | (go_simp; rfl) | (fail))); intro K hK; go_simp; (with_reducible refine hK _ ?_); clear hK K)
    refine wpHeld_nil ?_
    refine wpAllH_done (by kernel_rfl) ?_
    clear hS
    go_wp2_with (first | ((with_reducible refine at_store ?_); first | (refine sls hM ?_ (hX := HSET.out); clear hM; intro wx hM) | (refine slw hM ?_ (hs := sigC_size _ _ _ _ _) (h1 := sigC_one _ _ _ _ _) (hty := row_sgn); clear hM; intro wx hM)) | ((with_reducible refine at_load ?_); refine sll hM ?_ (hty := row_sgn)))
    exact bodyPost_ret (results_mem_cell_tmp hM rfl (by rfl) (by repeat (first | exact List.Mem.head _ | apply List.Mem.tail)) row_sgn (by rfl)) rfl ⟨B, c', rfl, hM.subL (List.Sublist.cons _ (List.Sublist.cons _ (List.Sublist.cons _ (List.Sublist.refl _))))⟩
  · refine slz hM ?_ (hz := zero_sgn)
    clear hM hS
    intro g9 wz hM
    have hS := HeldM.of (hM.subL (L' := [⟨g5, 23, 16, ndC d⟩, ⟨g, 90, 35, X⟩]) (List.Sublist.cons _ (List.Sublist.cons _ (List.Sublist.cons_cons _ (List.Sublist.cons_cons _ (List.nil_sublist _))))))
    refine wpList_then ⟨hS, ?_⟩
    refine wpAllH_one 10 rfl (by kernel_rfl) ?_
    go_wp2_with fail
    refine (HSN.out _ (ndT_in (hM.thing _ HR.out)) hM.below).mono ?_
    rintro e w1 ⟨B, c', rfl, hb⟩
    replace hM := hM.newThing hb
    clear hb hS
    have hS := HeldM.of (hM.subL (L' := [⟨g5, 23, 16, ndC d⟩, ⟨g, 90, 35, X⟩]) (List.Sublist.cons _ (List.Sublist.cons _ (List.Sublist.cons_cons _ (List.Sublist.cons_cons _ (List.nil_sublist _))))))
    go_wp2_with fail
    refine then_normal ⟨hS, ?_⟩
    refine wpAllH_takes [11, 12, 13] (by kernel_rfl) (fun _ _ _ _ _ h => h) hS (by kernel_rfl) ?_
    simp only [pickOps, List.filterMap_cons, List.filterMap_nil, List.getElem?_cons_zero, List.getElem?_cons_succ]
    repeat ((with_reducible apply wpHeld_step); (· rfl); (· (intro w hSw; first | (go_simp; rfl) | (fail))); intro K hK; go_simp; (with_reducible refine hK _ ?_); clear hK K)
    refine wpHeld_nil ?_
    refine wpAllH_one 15 rfl (by kernel_rfl) ?_
    refine slw hM ?_ (hs := sigC_size _ _ _ _ _) (h1 := sigC_one _ _ _ _ _) (hty := row_sgn)
    clear hM hS
    intro wy hM
    have hS := HeldM.of (hM.subL (L' := [⟨g5, 23, 16, ndC d⟩, ⟨g, 90, 35, X⟩]) (List.Sublist.cons _ (List.Sublist.cons _ (List.Sublist.cons_cons _ (List.Sublist.cons_cons _ (List.nil_sublist _))))))
    refine wpList_then ⟨hS, ?_⟩
    refine wpAllH_takes [16] (by kernel_rfl) (fun _ _ _ _ _ h => h) hS (by kernel_rfl) ?_
    simp only [pickOps, List.filterMap_cons, List.filterMap_nil, List.getElem?_cons_zero, List.getElem?_cons_succ]
    repeat ((with_reducible apply wpHeld_step); (· rfl); (· (intro w hSw; first | (go_simp; rfl) | (fail))); intro K hK; go_simp; (with_reducible refine hK _ ?_); clear hK K)
    refine wpHeld_nil ?_
    refine wpAllH_done (by kernel_rfl) ?_
    clear hS
    go_wp2_with (first | ((with_reducible refine at_store ?_); first | (refine sls hM ?_ (hX := HSET.out); clear hM; intro wx hM) | (refine slw hM ?_ (hs := sigC_size _ _ _ _ _) (h1 := sigC_one _ _ _ _ _) (hty := row_sgn); clear hM; intro wx hM)) | ((with_reducible refine at_load ?_); refine sll hM ?_ (hty := row_sgn)))
    exact bodyPost_ret (results_mem_cell_tmp hM rfl (by rfl) (by repeat (first | exact List.Mem.head _ | apply List.Mem.tail)) row_sgn (by rfl)) rfl ⟨B, c', rfl, hM.subL (List.Sublist.cons _ (List.Sublist.cons _ (List.Sublist.cons _ (List.Sublist.refl _))))⟩
end Go.Proofs.YtbbdnlcjjcmllaaDoor
namespace Go.Proofs.YtbbdnlcjjcmllaaDoor
open Go Go.RowKit Go.Bul Go.Thg Go.Lin
set_option maxRecDepth 20000 in
set_option maxHeartbeats 4000000 in
theorem gsign_yes {w0 w : World} {L : List Ent} {R : List Thing} {g : Nat} (s : Sd) (h : Nat) (A : Option Addr) (n c : Nat) (lv : List Nd) (k : Nat) (d : Nd) (hM : Mem [] w0 (⟨g, 90, 35, sgrC s (h : Nat) A n c (k : Nat)⟩ :: L) R w) (hR : ndT (.slice A n c) lv ∈ R)
    (h1 : 1 ≤ h) (hh : h ≤ 8) (hn : lv.length = 2 ^ h) (hk : k + 1 < 2 ^ h) (hT : Tab w0) :
    Calls Tryd.prog 17 #[.pointer (some ⟨g, 0, none⟩), .agg (ndC d)] w fun e w' => ∃ B c', e = .returned (.tuple #[.agg (sigC (k : Nat) (sgCh s k d) B h c'), .int .i64 0]) ∧ Mem [] w0 (⟨g, 90, 35, sgrC s (h : Nat) A n c ((k : Int) + 1)⟩ :: L) (p16T (.slice B h c') (sibsF lv k h) :: R) w' := by
  have hp2 : (2 : Int) ^ h = ((2 ^ h : Nat) : Int) := by simp
  have HR := Lib.hid hR
  have HLA := Lib.hid (fun w' hc => last_any g h w' hc hh)
  have HU := Lib.hid (fun L R w' (hm : Mem [] w0 (⟨g, 90, 35, sgrC s (h : Nat) A n c (k : Nat)⟩ :: L) R w') (hr : ndT (.slice A n c) lv ∈ R) => use_any s h A n c (k : Nat) lv k d hm hr h1 hh hn (by omega) hT)
  have H32 := Lib.hid (sgrC_h s (h : Nat) A n c (k : Nat))
  have H34 := Lib.hid (sgrC_n s (h : Nat) A n c (k : Nat))
  have r1 : decide ((2 : Int) ^ h - 1 ≤ (k : Int)) = false := decide_eq_false (by omega)
  generalize sgCh s k d = ch at HU ⊢
  generalize sibsF lv k h = P at HU ⊢
  generalize sgrC s (h : Nat) A n c ((k : Int) + 1) = X2 at HU ⊢
  generalize sgrC s (h : Nat) A n c (k : Nat) = X at hM HU H32 H34
  clear hR h1 hh hn hk hT hp2
  go_enter Tryd.func17, Tryd.ntmps17
  go_upto_region 3 with (first | ((with_reducible refine at_box ?_); refine slb hM ?_ (hty := row_a16) (hn := ndC_size _); clear hM; intro g3 w1 hM) | ((with_reducible refine at_alloc ?_); refine slz hM ?_ (hz := zero_sgn); clear hM; intro g4 w1 hM))
  obtain ⟨g4, hg4⟩ := hM.name1
  obtain ⟨g3, hg3⟩ := (hM.subL (List.sublist_cons_self _ _)).name1
  subst hg4 hg3
  refine Go.Bul.wp_region_class (Mem _ w0 _ _) (by kernel_rfl) (by kernel_rfl) hM.drew ?_
  repeat ((with_reducible refine wpQuiet_step (fun K hK => ?_)); (first | ((first | ((with_reducible refine quiet_some ?_ ?_); (· rfl)) | ((with_reducible refine quiet_wanted ?_ ?_); (· rfl))); apply Exists.intro; refine ⟨fun w' hM' => ?_, ?_⟩; (· first | (go_simp; rfl) | exact sqc hM' (hv := H34.out) | (go_simp; with_reducible refine at_calls ?_; exact quiet_mem_call_same hM' (HLA.out _ (((hM'.blk (List.Mem.tail _ (List.Mem.tail _ (List.Mem.head _)))).cell 32).trans H32.out))) | exact qc hM' | exact ql hM' | exact qp hM')) | ((with_reducible refine quiet_unwanted ?_ ?_); (· rfl))); go_simp; (with_reducible refine hK _ ?_); clear hK K)
  refine wpQuiet_nil ?_
  intro wx hM
  go_upto_region 5 with fail
  refine wp_region_allTM hM 6 (HeldM [⟨g3, 23, 16, ndC d⟩, ⟨g, 90, 35, X⟩]) (by kernel_rfl) ?_
  clear hM
  intro wd hM
  have hS := HeldM.of (hM.subL (L' := [⟨g3, 23, 16, ndC d⟩, ⟨g, 90, 35, X⟩]) (List.Sublist.cons _ (List.Sublist.cons_cons _ (List.Sublist.cons_cons _ (List.nil_sublist _)))))
  refine wpAllT_takes [0, 1, 2, 3, 4, 5] (by kernel_rfl) (fun _ _ _ _ _ h => h) hS (by kernel_rfl) ?_
  simp only [pickOps, List.filterMap_cons, List.filterMap_nil, List.getElem?_cons_zero, List.getElem?_cons_succ]
  repeat ((with_reducible apply wpHeld_step); (· rfl); (· (intro wq hSw; first | (go_simp; rfl) | ((obtain ⟨_, _, _, hM'⟩ := hSw; first | exact yields_load (C := fun _ => True) (sqc hM' (hv := H34.out)) rfl | exact yields_load (C := fun _ => True) (sql hM' (hty := row_a16)) rfl)))); intro K hK; go_simp; (with_reducible refine hK _ ?_); clear hK K)
  refine wpHeld_nil ?_
  refine wpAllT_one 6 rfl (by kernel_rfl) ?_
  go_wp2_with fail
  refine (HU.out _ _ _ (hM.permL (List.perm_middle (l₁ := ([_, _] : List Ent))).symm) HR.out).mono ?_
  rintro e w1 ⟨B, c', rfl, hM2⟩
  replace hM := hM2.permL (List.perm_middle (l₁ := ([_, _] : List Ent)))
  simp only [List.cons_append, List.nil_append] at hM
  clear hM2 hS
  go_wp2_with fail
  refine then_normal ⟨.inl (by kernel_rfl), wpAllT_drop (by kernel_rfl) ?_⟩
  refine wpAll_takes [7, 8] (by kernel_rfl) (fun _ _ _ _ _ h => h) (by kernel_rfl) ?_
  simp only [pickOps, List.filterMap_cons, List.filterMap_nil, List.getElem?_cons_zero, List.getElem?_cons_succ]
  repeat ((with_reducible apply wpPure_step); (· rfl); (· (intro w; go_simp; rfl)); intro K hK; go_simp; (with_reducible refine hK _ ?_); clear hK K)
  refine wpPure_nil ?_
  refine wpAll_one 9 rfl (by kernel_rfl) ?_
  refine slw hM ?_ (hs := sigC_size _ _ _ _ _) (h1 := sigC_one _ _ _ _ _) (hty := row_sgn)
  clear hM
  intro wy hM
  refine wpList_then ?_
  go_simp
  refine wpAll_takes [10] (by kernel_rfl) (fun _ _ _ _ _ h => h) (by kernel_rfl) ?_
  simp only [pickOps, List.filterMap_cons, List.filterMap_nil, List.getElem?_cons_zero, List.getElem?_cons_succ]
  repeat ((with_reducible apply wpPure_step); (· rfl); (· (intro w; go_simp; rfl)); intro K hK; go_simp; (with_reducible refine hK _ ?_); clear hK K)
  refine wpPure_nil ?_
  refine wpAll_done (by kernel_rfl) ?_
  go_wp2_with fail
  exact bodyPost_ret (results_mem_cell_tmp hM rfl (by rfl) (by repeat (first | exact List.Mem.head _ | apply List.Mem.tail)) row_sgn (by rfl)) rfl ⟨B, c', rfl, hM.subL (List.Sublist.cons _ (List.Sublist.cons _ (List.Sublist.refl _)))⟩
set_option maxRecDepth 20000 in
set_option maxHeartbeats 2000000 in
theorem gsign_used {w0 w : World} {L : List Ent} {R : List Thing} {g : Nat} (s : Sd) (h : Nat) (A : Option Addr) (n c : Nat) (next : Int) (d : Nd) (hM : Mem [] w0 (⟨g, 90, 35, sgrC s (h : Nat) A n c next⟩ :: L) R w)
    (hh : h ≤ 8) (hk : (2 : Int) ^ h - 1 ≤ next) :
    Calls Tryd.prog 17 #[.pointer (some ⟨g, 0, none⟩), .agg (ndC d)] w fun e w' => e = .returned (.tuple #[.agg (sigC 0 ch0 none 0 0), .int .i64 19]) ∧ Mem [] w0 (⟨g, 90, 35, sgrC s (h : Nat) A n c next⟩ :: L) R w' := by
  have HLA := Lib.hid (fun w' hc => last_any g h w' hc hh)
  have H32 := Lib.hid (sgrC_h s (h : Nat) A n c next)
  have H34 := Lib.hid (sgrC_n s (h : Nat) A n c next)
  have r1 : decide ((2 : Int) ^ h - 1 ≤ next) = true := decide_eq_true hk
  generalize sgrC s (h : Nat) A n c next = X at hM H32 H34 ⊢
  clear hh hk
  go_enter Tryd.func17, Tryd.ntmps17
  go_upto_region 3 with (first | ((with_reducible refine at_box ?_); refine slb hM ?_ (hty := row_a16) (hn := ndC_size _); clear hM; intro g3 w1 hM) | ((with_reducible refine at_alloc ?_); refine slz hM ?_ (hz := zero_sgn); clear hM; intro g4 w1 hM))
  obtain ⟨g4, hg4⟩ := hM.name1
  obtain ⟨g3, hg3⟩ := (hM.subL (List.sublist_cons_self _ _)).name1
  subst hg4 hg3
  refine Go.Bul.wp_region_class (Mem _ w0 _ _) (by kernel_rfl) (by kernel_rfl) hM.drew ?_
  repeat ((with_reducible refine wpQuiet_step (fun K hK => ?_)); (first | ((first | ((with_reducible refine quiet_some ?_ ?_); (· rfl)) | ((with_reducible refine quiet_wanted ?_ ?_); (· rfl))); apply Exists.intro; refine ⟨fun w' hM' => ?_, ?_⟩; (· first | (go_simp; rfl) | exact sqc hM' (hv := H34.out) | (go_simp; with_reducible refine at_calls ?_; exact quiet_mem_call_same hM' (HLA.out _ (((hM'.blk (List.Mem.tail _ (List.Mem.tail _ (List.Mem.head _)))).cell 32).trans H32.out))) | exact qc hM' | exact ql hM' | exact qp hM')) | ((with_reducible refine quiet_unwanted ?_ ?_); (· rfl))); go_simp; (with_reducible refine hK _ ?_); clear hK K)
  refine wpQuiet_nil ?_
  intro wx hM
  go_wp2_with (first | ((with_reducible refine at_build ?_); refine lbsgn0 ?_) | ((with_reducible refine at_store ?_); refine slw hM ?_ (hs := sigC_size _ _ _ _ _) (h1 := sigC_one _ _ _ _ _) (hty := row_sgn); clear hM; intro wx hM))
  exact bodyPost_ret (results_mem_cell_tmp hM rfl (by rfl) (by repeat (first | exact List.Mem.head _ | apply List.Mem.tail)) row_sgn (by rfl)) rfl ⟨rfl, hM.subL (List.Sublist.cons _ (List.Sublist.cons _ (List.Sublist.refl _)))⟩
end Go.Proofs.YtbbdnlcjjcmllaaDoor
