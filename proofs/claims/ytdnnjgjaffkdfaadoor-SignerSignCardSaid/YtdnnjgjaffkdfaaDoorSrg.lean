/- The walk of SignerSign. -/
import Derived.Test.YtdnnjgjaffkdfaaDoorSbj
import Derived.Test.YtdnnjgjaffkdfaaDoorSbl
import Derived.Test.YtdnnjgjaffkdfaaDoorXb
import Derived.Test.YtdnnjgjaffkdfaaDoorSks
import Derived.Test.YtdnnjgjaffkdfaaDoorSgs
namespace Go.Proofs.YtdnnjgjaffkdfaaDoor
open Go Go.RowKit Go.Bul Go.Thg Go.Lin
theorem zero_sec : ZeroTy Tryd.prog 48 33 (secC sd0 0) := ⟨⟨.agg _, by kernel_rfl, rfl, secC_size _ _⟩⟩
theorem nin_nil (w : World) : NIn w none 0 [] := ⟨rfl, fun h => absurd h (by omega)⟩
theorem held_sec {w : World} {o : Oper} {a : Act} {x0 x1 : Operand} {s : Sd} {h : Int} (ho : o.op = .build 48 #[(0, x0), (1, x1)] := by rfl) (h0 : a.eval x0 = .agg (cellsOf .u8 s.val) := by rfl) (hx : a.eval x1 = .int .i64 h := by rfl) : (execOp a.eval o).run Tryd.prog w = .ok (.value (.agg (secC s h))) w := by
  unfold execOp
  simp only [ho, List.map_toArray, List.map_cons, List.map_nil, h0, hx, Sem.run_bind, run_sec, Result.andThen_ok, Sem.run_pure]
set_option maxRecDepth 20000 in
set_option maxHeartbeats 8000000 in
theorem ssgn_any (s : Sd) (x : Nat) (z : Int) (d : Nd) (w : World) (hx : x < 256) (hT : Tab w) (hA : Alp w) :
    Calls Tryd.prog 5 #[.agg (cellsOf .u8 s.val), .int .u8 (x : Nat), .int .i64 z, .agg (ndC d)] w fun e w' => e = .returned (.bool true) ∧ Below w.heap.size w w' := by
  have hM := Mem.start [] w
  have HS := Lib.hid (show (cellsOf .u8 s.val).size = 32 by rw [cellsOf_size, s.len])
  have HK := Lib.hid (fun w' (hb : Below w.heap.size w w') => known_any w' (hT.keep hb) (hA.keep hb))
  have HLo := Lib.hid (fun w => low_any x w hx)
  obtain ⟨h, hh⟩ : ∃ h, 1 + x % 3 = h := ⟨_, rfl⟩
  have h1 : 1 ≤ h := by omega
  have h3 : h ≤ 3 := by omega
  rw [hh] at HLo
  have hp : 2 ^ h ≤ 2 ^ 3 := Nat.pow_le_pow_right (by decide) h3
  have hp2 : (2 : Int) ^ h = ((2 ^ h : Nat) : Int) := by simp
  have c4 : wrap64 ((2 : Int) ^ h) = (2 : Int) ^ h := by rw [hp2]; have := Int.natCast_nonneg (2 ^ h); unfold wrap64; omega
  have HH := Lib.hid (secC_h s (h : Nat))
  have q0 : (0 : Int) ≤ (h : Int) := Int.natCast_nonneg _
  have q1 : (h : Int) ≤ 8 := by omega
  by_cases hz : z < 0 ∨ (2 : Int) ^ h ≤ z
  · have HSN := Lib.hid (fun w => psign_no s h z d w h1 (by omega) hz)
    have HB := Lib.hid (fun w => lback_any 0 ch0 none 0 0 [] w (nin_nil w) (by omega))
    have HSM := Lib.hid (fun B c' w' (hr : NIn w' B 0 []) => rsame_any 0 0 ch0 ch0 B none 0 c' 0 0 [] [] w' hr (nin_nil w') (by omega) (by omega))
    simp only [decide_true, and_self] at HSM
    by_cases hz1 : z < 0
    · have r1 : decide (z < 0) = true := decide_eq_true hz1
      clear hz hz1 hT hA hh h1 h3 hx hp hp2
      go_enter Tryd.func5, Tryd.ntmps5
      go_upto_region 3 with (first | ((with_reducible refine at_box ?_); first | (refine slb hM ?_ (hty := row_a32) (hn := HS.out); clear hM; intro g4 w1 hM) | (refine slb hM ?_ (hty := row_a16) (hn := ndC_size _); clear hM; intro g7 w1 hM)) | ((with_reducible refine (HK.out _ hM.below).mono ?_); rintro e w1 ⟨rfl, hb⟩; replace hM := hM.step hb; clear hb))
      obtain ⟨g7, hg7⟩ := hM.name1
      obtain ⟨g4, hg4⟩ := (hM.subL (List.sublist_cons_self _ _)).name1
      subst hg7 hg4
      revert hM
      apply join2 (R := fun g9 wz => Mem [] w [⟨g9, 48, 33, secC s (h : Nat)⟩, ⟨g7, 22, 16, ndC d⟩, ⟨g4, 44, 32, cellsOf .u8 s.val⟩] [] wz)
      · intro hK hM
        refine wp_region_allHM hM (HeldM [⟨g7, 22, 16, ndC d⟩, ⟨g4, 44, 32, cellsOf .u8 s.val⟩]) (by kernel_rfl) ?_
        clear hM
        intro wd hM
        have hS := HeldM.of (hM.subL (L' := [⟨g7, 22, 16, ndC d⟩, ⟨g4, 44, 32, cellsOf .u8 s.val⟩]) (List.Sublist.refl _))
        refine wpAllH_takes [1, 0] (by kernel_rfl) (fun _ _ _ _ _ h => h) hS (by kernel_rfl) ?_
        simp only [pickOps, List.filterMap_cons, List.filterMap_nil, List.getElem?_cons_zero, List.getElem?_cons_succ]
        repeat ((with_reducible apply wpHeld_step); (· rfl); (· (intro w hSw; first | (go_simp; rfl) | ((obtain ⟨_, _, _, hM'⟩ := hSw; exact yields_load (C := fun _ => True) (sql hM' (hty := row_a32)) rfl)))); intro K hK; go_simp; (with_reducible refine hK _ ?_); clear hK K)
        refine wpHeld_nil ?_
        refine wpAllH_two 2 4 rfl rfl (by kernel_rfl) ?_ ?_
        · go_wp2_with fail
          refine (HLo.out _).mono ?_
          rintro e w1 ⟨rfl, rfl⟩
          go_wp2_with fail
          refine then_normal ⟨hS, ?_⟩
          refine wpAllH_takes [3] (by kernel_rfl) (fun _ _ _ _ _ h => h) hS (by kernel_rfl) ?_
          simp only [pickOps, List.filterMap_cons, List.filterMap_nil, List.getElem?_cons_zero, List.getElem?_cons_succ]
          repeat ((with_reducible apply wpHeld_step); (· rfl); (· (intro w hSw; first | (go_simp; rfl) | (exact held_sec))); intro K hK; go_simp; (with_reducible refine hK _ ?_); clear hK K)
          refine wpHeld_nil ?_
          refine wpAllH_one 4 rfl (by kernel_rfl) ?_
          refine slz hM ?_ (hz := zero_sec)
          clear hM hS
          intro g9 wy hM
          have hS := HeldM.of (hM.subL (L' := [⟨g7, 22, 16, ndC d⟩, ⟨g4, 44, 32, cellsOf .u8 s.val⟩]) (List.sublist_cons_self _ _))
          refine wpList_then ⟨hS, ?_⟩
          refine wpAllH_one 5 rfl (by kernel_rfl) ?_
          refine slw hM ?_ (hs := secC_size _ _) (h1 := secC_one _ _) (hty := row_sec)
          clear hM hS
          intro wz hM
          have hS := HeldM.of (hM.subL (L' := [⟨g7, 22, 16, ndC d⟩, ⟨g4, 44, 32, cellsOf .u8 s.val⟩]) (List.sublist_cons_self _ _))
          refine wpList_then ⟨hS, ?_⟩
          refine wpAllH_done (by kernel_rfl) ?_
          go_simp
          exact hK _ _ hM
        · refine slz hM ?_ (hz := zero_sec)
          clear hM hS
          intro g9 wy hM
          have hS := HeldM.of (hM.subL (L' := [⟨g7, 22, 16, ndC d⟩, ⟨g4, 44, 32, cellsOf .u8 s.val⟩]) (List.sublist_cons_self _ _))
          refine wpList_then ⟨hS, ?_⟩
          refine wpAllH_one 2 rfl (by kernel_rfl) ?_
          go_wp2_with fail
          refine (HLo.out _).mono ?_
          rintro e w1 ⟨rfl, rfl⟩
          go_wp2_with fail
          refine then_normal ⟨hS, ?_⟩
          refine wpAllH_takes [3] (by kernel_rfl) (fun _ _ _ _ _ h => h) hS (by kernel_rfl) ?_
          simp only [pickOps, List.filterMap_cons, List.filterMap_nil, List.getElem?_cons_zero, List.getElem?_cons_succ]
          repeat ((with_reducible apply wpHeld_step); (· rfl); (· (intro w hSw; first | (go_simp; rfl) | (exact held_sec))); intro K hK; go_simp; (with_reducible refine hK _ ?_); clear hK K)
          refine wpHeld_nil ?_
          refine wpAllH_one 5 rfl (by kernel_rfl) ?_
          refine slw hM ?_ (hs := secC_size _ _) (h1 := secC_one _ _) (hty := row_sec)
          clear hM hS
          intro wz hM
          have hS := HeldM.of (hM.subL (L' := [⟨g7, 22, 16, ndC d⟩, ⟨g4, 44, 32, cellsOf .u8 s.val⟩]) (List.sublist_cons_self _ _))
          refine wpList_then ⟨hS, ?_⟩
          refine wpAllH_done (by kernel_rfl) ?_
          go_simp
          exact hK _ _ hM
      · intro g9 wz hM
        go_wp2_with (first | ((first | with_reducible refine at_load ?_ | ((with_reducible refine at_load_g ?_ ?_); (· rfl))); first | refine slc hM ?_ (hv := HH.out) | refine sll hM ?_ (hty := row_sec) | refine sll hM ?_ (hty := row_a16) | refine sll hM ?_ (hty := row_a32) | refine sll hM ?_ (hty := row_sgn)) | ((with_reducible refine at_alloc ?_); first | (refine slz hM ?_ (hz := zero_pub); clear hM; intro g12 w1 hM) | (refine slz hM ?_ (hz := zero_sgn); clear hM; intro g10 w1 hM)) | ((with_reducible refine at_store ?_); first | (refine slw hM ?_ (hs := pubC_size _ _) (h1 := pubC_one _ _) (hty := row_pub); clear hM; intro wx hM) | (refine slw hM ?_ (hs := sigC_size _ _ _ _ _) (h1 := sigC_one _ _ _ _ _) (hty := row_sgn); clear hM; intro wx hM)) | ((with_reducible refine (HSN.out _).mono ?_); rintro e w1 ⟨rfl, hb⟩; replace hM := hM.step hb; clear hb) | ((with_reducible refine (HB.out _).mono ?_); rintro e w1 ⟨B2, c2, rfl, hb⟩; replace hM := hM.newThing hb; clear hb) | ((with_reducible refine (HSM.out _ _ _ (p16T_in (hM.thing _ (List.Mem.head _)))).mono ?_); rintro e w1 ⟨rfl, hb⟩; replace hM := hM.step hb; clear hb) | ((first | with_reducible refine at_build ?_ | ((with_reducible refine at_build_g ?_ ?_); (· rfl))); refine lbrsg0 ?_))
        go_ret
        exact ⟨rfl, hM.below⟩
    · have r1 : decide (z < 0) = false := decide_eq_false hz1
      have r2 : decide ((2 : Int) ^ h ≤ z) = true := decide_eq_true (by omega)
      clear hz hz1 hT hA hh h1 h3 hx hp hp2
      go_enter Tryd.func5, Tryd.ntmps5
      go_upto_region 3 with (first | ((with_reducible refine at_box ?_); first | (refine slb hM ?_ (hty := row_a32) (hn := HS.out); clear hM; intro g4 w1 hM) | (refine slb hM ?_ (hty := row_a16) (hn := ndC_size _); clear hM; intro g7 w1 hM)) | ((with_reducible refine (HK.out _ hM.below).mono ?_); rintro e w1 ⟨rfl, hb⟩; replace hM := hM.step hb; clear hb))
      obtain ⟨g7, hg7⟩ := hM.name1
      obtain ⟨g4, hg4⟩ := (hM.subL (List.sublist_cons_self _ _)).name1
      subst hg7 hg4
      revert hM
      apply join2 (R := fun g9 wz => Mem [] w [⟨g9, 48, 33, secC s (h : Nat)⟩, ⟨g7, 22, 16, ndC d⟩, ⟨g4, 44, 32, cellsOf .u8 s.val⟩] [] wz)
      · intro hK hM
        refine wp_region_allHM hM (HeldM [⟨g7, 22, 16, ndC d⟩, ⟨g4, 44, 32, cellsOf .u8 s.val⟩]) (by kernel_rfl) ?_
        clear hM
        intro wd hM
        have hS := HeldM.of (hM.subL (L' := [⟨g7, 22, 16, ndC d⟩, ⟨g4, 44, 32, cellsOf .u8 s.val⟩]) (List.Sublist.refl _))
        refine wpAllH_takes [1, 0] (by kernel_rfl) (fun _ _ _ _ _ h => h) hS (by kernel_rfl) ?_
        simp only [pickOps, List.filterMap_cons, List.filterMap_nil, List.getElem?_cons_zero, List.getElem?_cons_succ]
        repeat ((with_reducible apply wpHeld_step); (· rfl); (· (intro w hSw; first | (go_simp; rfl) | ((obtain ⟨_, _, _, hM'⟩ := hSw; exact yields_load (C := fun _ => True) (sql hM' (hty := row_a32)) rfl)))); intro K hK; go_simp; (with_reducible refine hK _ ?_); clear hK K)
        refine wpHeld_nil ?_
        refine wpAllH_two 2 4 rfl rfl (by kernel_rfl) ?_ ?_
        · go_wp2_with fail
          refine (HLo.out _).mono ?_
          rintro e w1 ⟨rfl, rfl⟩
          go_wp2_with fail
          refine then_normal ⟨hS, ?_⟩
          refine wpAllH_takes [3] (by kernel_rfl) (fun _ _ _ _ _ h => h) hS (by kernel_rfl) ?_
          simp only [pickOps, List.filterMap_cons, List.filterMap_nil, List.getElem?_cons_zero, List.getElem?_cons_succ]
          repeat ((with_reducible apply wpHeld_step); (· rfl); (· (intro w hSw; first | (go_simp; rfl) | (exact held_sec))); intro K hK; go_simp; (with_reducible refine hK _ ?_); clear hK K)
          refine wpHeld_nil ?_
          refine wpAllH_one 4 rfl (by kernel_rfl) ?_
          refine slz hM ?_ (hz := zero_sec)
          clear hM hS
          intro g9 wy hM
          have hS := HeldM.of (hM.subL (L' := [⟨g7, 22, 16, ndC d⟩, ⟨g4, 44, 32, cellsOf .u8 s.val⟩]) (List.sublist_cons_self _ _))
          refine wpList_then ⟨hS, ?_⟩
          refine wpAllH_one 5 rfl (by kernel_rfl) ?_
          refine slw hM ?_ (hs := secC_size _ _) (h1 := secC_one _ _) (hty := row_sec)
          clear hM hS
          intro wz hM
          have hS := HeldM.of (hM.subL (L' := [⟨g7, 22, 16, ndC d⟩, ⟨g4, 44, 32, cellsOf .u8 s.val⟩]) (List.sublist_cons_self _ _))
          refine wpList_then ⟨hS, ?_⟩
          refine wpAllH_done (by kernel_rfl) ?_
          go_simp
          exact hK _ _ hM
        · refine slz hM ?_ (hz := zero_sec)
          clear hM hS
          intro g9 wy hM
          have hS := HeldM.of (hM.subL (L' := [⟨g7, 22, 16, ndC d⟩, ⟨g4, 44, 32, cellsOf .u8 s.val⟩]) (List.sublist_cons_self _ _))
          refine wpList_then ⟨hS, ?_⟩
          refine wpAllH_one 2 rfl (by kernel_rfl) ?_
          go_wp2_with fail
          refine (HLo.out _).mono ?_
          rintro e w1 ⟨rfl, rfl⟩
          go_wp2_with fail
          refine then_normal ⟨hS, ?_⟩
          refine wpAllH_takes [3] (by kernel_rfl) (fun _ _ _ _ _ h => h) hS (by kernel_rfl) ?_
          simp only [pickOps, List.filterMap_cons, List.filterMap_nil, List.getElem?_cons_zero, List.getElem?_cons_succ]
          repeat ((with_reducible apply wpHeld_step); (· rfl); (· (intro w hSw; first | (go_simp; rfl) | (exact held_sec))); intro K hK; go_simp; (with_reducible refine hK _ ?_); clear hK K)
          refine wpHeld_nil ?_
          refine wpAllH_one 5 rfl (by kernel_rfl) ?_
          refine slw hM ?_ (hs := secC_size _ _) (h1 := secC_one _ _) (hty := row_sec)
          clear hM hS
          intro wz hM
          have hS := HeldM.of (hM.subL (L' := [⟨g7, 22, 16, ndC d⟩, ⟨g4, 44, 32, cellsOf .u8 s.val⟩]) (List.sublist_cons_self _ _))
          refine wpList_then ⟨hS, ?_⟩
          refine wpAllH_done (by kernel_rfl) ?_
          go_simp
          exact hK _ _ hM
      · intro g9 wz hM
        go_wp2_with (first | ((first | with_reducible refine at_load ?_ | ((with_reducible refine at_load_g ?_ ?_); (· rfl))); first | refine slc hM ?_ (hv := HH.out) | refine sll hM ?_ (hty := row_sec) | refine sll hM ?_ (hty := row_a16) | refine sll hM ?_ (hty := row_a32) | refine sll hM ?_ (hty := row_sgn)) | ((with_reducible refine at_alloc ?_); first | (refine slz hM ?_ (hz := zero_pub); clear hM; intro g12 w1 hM) | (refine slz hM ?_ (hz := zero_sgn); clear hM; intro g10 w1 hM)) | ((with_reducible refine at_store ?_); first | (refine slw hM ?_ (hs := pubC_size _ _) (h1 := pubC_one _ _) (hty := row_pub); clear hM; intro wx hM) | (refine slw hM ?_ (hs := sigC_size _ _ _ _ _) (h1 := sigC_one _ _ _ _ _) (hty := row_sgn); clear hM; intro wx hM)) | ((with_reducible refine (HSN.out _).mono ?_); rintro e w1 ⟨rfl, hb⟩; replace hM := hM.step hb; clear hb) | ((with_reducible refine (HB.out _).mono ?_); rintro e w1 ⟨B2, c2, rfl, hb⟩; replace hM := hM.newThing hb; clear hb) | ((with_reducible refine (HSM.out _ _ _ (p16T_in (hM.thing _ (List.Mem.head _)))).mono ?_); rintro e w1 ⟨rfl, hb⟩; replace hM := hM.step hb; clear hb) | ((first | with_reducible refine at_build ?_ | ((with_reducible refine at_build_g ?_ ?_); (· rfl))); refine lbrsg0 ?_))
        go_ret
        exact ⟨rfl, hM.below⟩
  · obtain ⟨k, rfl⟩ : ∃ k : Nat, z = (k : Int) := ⟨z.toNat, by omega⟩
    have hk : k < 2 ^ h := by omega
    have r1 : decide ((k : Int) < 0) = false := decide_eq_false (by omega)
    have r2 : decide ((2 : Int) ^ h ≤ (k : Int)) = false := decide_eq_false (by omega)
    have HSN := Lib.hid (fun w' (hb : Below w.heap.size w w') => psign_yes s h k d w' h1 (by omega) hk (hT.keep hb))
    have HP := Lib.hid (fun w' (hb : Below w.heap.size w w') => spub_yes s h w' h1 (by omega) (hT.keep hb))
    have HRS := Lib.hid (fun w => rsign_any s h k d w h1 (by omega) hk)
    have HB := Lib.hid (fun B c w' (hr : NIn w' B h (sibsF (lvsN s (2 ^ h)) k h)) => lback_any (k : Nat) (sgCh s k d) B h c _ w' hr (by omega))
    have HSM := Lib.hid (fun B2 c2 B3 c3 w' (h1 : NIn w' B2 h (sibsF (lvsN s (2 ^ h)) k h)) (h2 : NIn w' B3 h (sibsF (lvsN s (2 ^ h)) k h)) => rsame_any (k : Nat) (k : Nat) (sgCh s k d) (sgCh s k d) B2 B3 h c2 h c3 _ _ w' h1 h2 (by omega) (by omega))
    simp only [decide_true, and_self] at HSM
    have HV := Lib.hid (fun B c w' (hr : NIn w' B h (sibsF (lvsN s (2 ^ h)) k h)) (hb : Below w.heap.size w w') => gver_any (h : Nat) (rtN s h) d (k : Nat) (sgCh s k d) B h c _ w' hr (hT.keep hb))
    rw [ver_sig s h k d h1 (by omega) hk] at HV
    generalize sgCh s k d = ch at HSN HRS HB HSM HV
    generalize sibsF (lvsN s (2 ^ h)) k h = P at HSN HRS HB HSM HV
    generalize rtN s h = Z at HP HV
    clear hz hk hT hA hh h1 h3 hx hp hp2
    go_enter Tryd.func5, Tryd.ntmps5
    go_upto_region 3 with (first | ((with_reducible refine at_box ?_); first | (refine slb hM ?_ (hty := row_a32) (hn := HS.out); clear hM; intro g4 w1 hM) | (refine slb hM ?_ (hty := row_a16) (hn := ndC_size _); clear hM; intro g7 w1 hM)) | ((with_reducible refine (HK.out _ hM.below).mono ?_); rintro e w1 ⟨rfl, hb⟩; replace hM := hM.step hb; clear hb))
    obtain ⟨g7, hg7⟩ := hM.name1
    obtain ⟨g4, hg4⟩ := (hM.subL (List.sublist_cons_self _ _)).name1
    subst hg7 hg4
    revert hM
    apply join2 (R := fun g9 wz => Mem [] w [⟨g9, 48, 33, secC s (h : Nat)⟩, ⟨g7, 22, 16, ndC d⟩, ⟨g4, 44, 32, cellsOf .u8 s.val⟩] [] wz)
    · intro hK hM
      refine wp_region_allHM hM (HeldM [⟨g7, 22, 16, ndC d⟩, ⟨g4, 44, 32, cellsOf .u8 s.val⟩]) (by kernel_rfl) ?_
      clear hM
      intro wd hM
      have hS := HeldM.of (hM.subL (L' := [⟨g7, 22, 16, ndC d⟩, ⟨g4, 44, 32, cellsOf .u8 s.val⟩]) (List.Sublist.refl _))
      refine wpAllH_takes [1, 0] (by kernel_rfl) (fun _ _ _ _ _ h => h) hS (by kernel_rfl) ?_
      simp only [pickOps, List.filterMap_cons, List.filterMap_nil, List.getElem?_cons_zero, List.getElem?_cons_succ]
      repeat ((with_reducible apply wpHeld_step); (· rfl); (· (intro w hSw; first | (go_simp; rfl) | ((obtain ⟨_, _, _, hM'⟩ := hSw; exact yields_load (C := fun _ => True) (sql hM' (hty := row_a32)) rfl)))); intro K hK; go_simp; (with_reducible refine hK _ ?_); clear hK K)
      refine wpHeld_nil ?_
      refine wpAllH_two 2 4 rfl rfl (by kernel_rfl) ?_ ?_
      · go_wp2_with fail
        refine (HLo.out _).mono ?_
        rintro e w1 ⟨rfl, rfl⟩
        go_wp2_with fail
        refine then_normal ⟨hS, ?_⟩
        refine wpAllH_takes [3] (by kernel_rfl) (fun _ _ _ _ _ h => h) hS (by kernel_rfl) ?_
        simp only [pickOps, List.filterMap_cons, List.filterMap_nil, List.getElem?_cons_zero, List.getElem?_cons_succ]
        repeat ((with_reducible apply wpHeld_step); (· rfl); (· (intro w hSw; first | (go_simp; rfl) | (exact held_sec))); intro K hK; go_simp; (with_reducible refine hK _ ?_); clear hK K)
        refine wpHeld_nil ?_
        refine wpAllH_one 4 rfl (by kernel_rfl) ?_
        refine slz hM ?_ (hz := zero_sec)
        clear hM hS
        intro g9 wy hM
        have hS := HeldM.of (hM.subL (L' := [⟨g7, 22, 16, ndC d⟩, ⟨g4, 44, 32, cellsOf .u8 s.val⟩]) (List.sublist_cons_self _ _))
        refine wpList_then ⟨hS, ?_⟩
        refine wpAllH_one 5 rfl (by kernel_rfl) ?_
        refine slw hM ?_ (hs := secC_size _ _) (h1 := secC_one _ _) (hty := row_sec)
        clear hM hS
        intro wz hM
        have hS := HeldM.of (hM.subL (L' := [⟨g7, 22, 16, ndC d⟩, ⟨g4, 44, 32, cellsOf .u8 s.val⟩]) (List.sublist_cons_self _ _))
        refine wpList_then ⟨hS, ?_⟩
        refine wpAllH_done (by kernel_rfl) ?_
        go_simp
        exact hK _ _ hM
      · refine slz hM ?_ (hz := zero_sec)
        clear hM hS
        intro g9 wy hM
        have hS := HeldM.of (hM.subL (L' := [⟨g7, 22, 16, ndC d⟩, ⟨g4, 44, 32, cellsOf .u8 s.val⟩]) (List.sublist_cons_self _ _))
        refine wpList_then ⟨hS, ?_⟩
        refine wpAllH_one 2 rfl (by kernel_rfl) ?_
        go_wp2_with fail
        refine (HLo.out _).mono ?_
        rintro e w1 ⟨rfl, rfl⟩
        go_wp2_with fail
        refine then_normal ⟨hS, ?_⟩
        refine wpAllH_takes [3] (by kernel_rfl) (fun _ _ _ _ _ h => h) hS (by kernel_rfl) ?_
        simp only [pickOps, List.filterMap_cons, List.filterMap_nil, List.getElem?_cons_zero, List.getElem?_cons_succ]
        repeat ((with_reducible apply wpHeld_step); (· rfl); (· (intro w hSw; first | (go_simp; rfl) | (exact held_sec))); intro K hK; go_simp; (with_reducible refine hK _ ?_); clear hK K)
        refine wpHeld_nil ?_
        refine wpAllH_one 5 rfl (by kernel_rfl) ?_
        refine slw hM ?_ (hs := secC_size _ _) (h1 := secC_one _ _) (hty := row_sec)
        clear hM hS
        intro wz hM
        have hS := HeldM.of (hM.subL (L' := [⟨g7, 22, 16, ndC d⟩, ⟨g4, 44, 32, cellsOf .u8 s.val⟩]) (List.sublist_cons_self _ _))
        refine wpList_then ⟨hS, ?_⟩
        refine wpAllH_done (by kernel_rfl) ?_
        go_simp
        exact hK _ _ hM
    · intro g9 wz hM
      go_upto_region 8 with (first | ((first | with_reducible refine at_load ?_ | ((with_reducible refine at_load_g ?_ ?_); (· rfl))); first | refine slc hM ?_ (hv := HH.out) | refine sll hM ?_ (hty := row_sec) | refine sll hM ?_ (hty := row_a16) | refine sll hM ?_ (hty := row_a32) | refine sll hM ?_ (hty := row_sgn)) | ((with_reducible refine at_alloc ?_); first | (refine slz hM ?_ (hz := zero_pub); clear hM; intro g12 w1 hM) | (refine slz hM ?_ (hz := zero_sgn); clear hM; intro g10 w1 hM)) | ((with_reducible refine at_store ?_); first | (refine slw hM ?_ (hs := pubC_size _ _) (h1 := pubC_one _ _) (hty := row_pub); clear hM; intro wx hM) | (refine slw hM ?_ (hs := sigC_size _ _ _ _ _) (h1 := sigC_one _ _ _ _ _) (hty := row_sgn); clear hM; intro wx hM)) | ((with_reducible refine (HSN.out _ hM.below).mono ?_); rintro e w1 ⟨B, c', rfl, hb⟩; replace hM := hM.newThing hb; clear hb) | ((with_reducible refine (HP.out _ hM.below).mono ?_); rintro e w1 ⟨rfl, hb⟩; replace hM := hM.step hb; clear hb))
      obtain ⟨g12, hg12⟩ := hM.name1
      obtain ⟨g10, hg10⟩ := (hM.subL (List.sublist_cons_self _ _)).name1
      subst hg12 hg10
      refine wp_region_allHM hM (HeldM [⟨g12, 30, 17, pubC (h : Nat) Z⟩, ⟨g10, 31, 562, sigC (k : Nat) ch B h c'⟩, ⟨g9, 48, 33, secC s (h : Nat)⟩, ⟨g7, 22, 16, ndC d⟩, ⟨g4, 44, 32, cellsOf .u8 s.val⟩]) (by kernel_rfl) ?_
      clear hM
      intro wd hM
      have hS := HeldM.of (hM.subL (L' := [⟨g12, 30, 17, pubC (h : Nat) Z⟩, ⟨g10, 31, 562, sigC (k : Nat) ch B h c'⟩, ⟨g9, 48, 33, secC s (h : Nat)⟩, ⟨g7, 22, 16, ndC d⟩, ⟨g4, 44, 32, cellsOf .u8 s.val⟩]) (List.Sublist.refl _))
      refine wpAllH_takes [0, 1, 2, 3, 4, 5, 6, 7, 9, 10, 11, 12, 13] (by kernel_rfl) (fun _ _ _ _ _ h => h) hS (by kernel_rfl) ?_
      simp only [pickOps, List.filterMap_cons, List.filterMap_nil, List.getElem?_cons_zero, List.getElem?_cons_succ]
      repeat ((with_reducible apply wpHeld_stepG); (· rfl); (· (intro w hSw; first | (go_simp; rfl) | ((obtain ⟨_, _, _, hM'⟩ := hSw; first | exact yields_load (C := fun _ => True) (sqc hM' (hv := HH.out)) rfl | exact yields_load (C := fun _ => True) (sql hM' (hty := row_a16)) rfl | exact yields_load (C := fun _ => True) (sql hM' (hty := row_a32)) rfl | exact yields_load (C := fun _ => True) (sql hM' (hty := row_pub)) rfl | exact yields_load (C := fun _ => True) (sql hM' (hty := row_sgn)) rfl)))); intro K hK; go_simp; (with_reducible refine hK _ ?_); clear hK K)
      refine wpHeld_nil ?_
      refine wpAllH_one 8 rfl (by kernel_rfl) ?_
      go_wp2_with fail
      refine (HB.out _ _ _ (p16T_in (hM.thing _ (List.Mem.head _)))).mono ?_
      rintro e w1 ⟨B2, c2, rfl, hb⟩
      replace hM := hM.newThing hb
      clear hb hS
      have hS := HeldM.of (hM.subL (L' := [⟨g12, 30, 17, pubC (h : Nat) Z⟩, ⟨g10, 31, 562, sigC (k : Nat) ch B h c'⟩, ⟨g9, 48, 33, secC s (h : Nat)⟩, ⟨g7, 22, 16, ndC d⟩, ⟨g4, 44, 32, cellsOf .u8 s.val⟩]) (List.Sublist.refl _))
      go_wp2_with fail
      refine then_normal ⟨hS, ?_⟩
      refine wpAllH_one 14 rfl (by kernel_rfl) ?_
      go_wp2_with fail
      refine (HRS.out _).mono ?_
      rintro e w1 ⟨B3, c3, rfl, hb⟩
      replace hM := hM.newThing hb
      clear hb hS
      have hS := HeldM.of (hM.subL (L' := [⟨g12, 30, 17, pubC (h : Nat) Z⟩, ⟨g10, 31, 562, sigC (k : Nat) ch B h c'⟩, ⟨g9, 48, 33, secC s (h : Nat)⟩, ⟨g7, 22, 16, ndC d⟩, ⟨g4, 44, 32, cellsOf .u8 s.val⟩]) (List.Sublist.refl _))
      go_wp2_with fail
      refine then_normal ⟨hS, ?_⟩
      refine wpAllH_one 15 rfl (by kernel_rfl) ?_
      go_wp2_with fail
      refine (HSM.out _ _ _ _ _ (p16T_in (hM.thing _ (List.Mem.tail _ (List.Mem.head _)))) (p16T_in (hM.thing _ (List.Mem.head _)))).mono ?_
      rintro e w1 ⟨rfl, hb⟩
      replace hM := hM.step hb
      clear hb hS
      have hS := HeldM.of (hM.subL (L' := [⟨g12, 30, 17, pubC (h : Nat) Z⟩, ⟨g10, 31, 562, sigC (k : Nat) ch B h c'⟩, ⟨g9, 48, 33, secC s (h : Nat)⟩, ⟨g7, 22, 16, ndC d⟩, ⟨g4, 44, 32, cellsOf .u8 s.val⟩]) (List.Sublist.refl _))
      go_wp2_with fail
      refine then_normal ⟨hS, ?_⟩
      refine wpAllH_takes [16, 17, 18, 19, 20] (by kernel_rfl) (fun _ _ _ _ _ h => h) hS (by kernel_rfl) ?_
      simp only [pickOps, List.filterMap_cons, List.filterMap_nil, List.getElem?_cons_zero, List.getElem?_cons_succ]
      repeat ((with_reducible apply wpHeld_stepG); (· rfl); (· (intro w hSw; first | (go_simp; rfl) | ((obtain ⟨_, _, _, hM'⟩ := hSw; first | exact yields_load (C := fun _ => True) (sqc hM' (hv := HH.out)) rfl | exact yields_load (C := fun _ => True) (sql hM' (hty := row_a16)) rfl | exact yields_load (C := fun _ => True) (sql hM' (hty := row_a32)) rfl | exact yields_load (C := fun _ => True) (sql hM' (hty := row_pub)) rfl | exact yields_load (C := fun _ => True) (sql hM' (hty := row_sgn)) rfl)))); intro K hK; go_simp; (with_reducible refine hK _ ?_); clear hK K)
      refine wpHeld_nil ?_
      refine wpAllH_one 21 rfl (by kernel_rfl) ?_
      go_wp2_with fail
      refine (HV.out _ _ _ (p16T_in (hM.thing _ (List.Mem.tail _ (List.Mem.tail _ (List.Mem.head _))))) hM.below).mono ?_
      rintro e w1 ⟨rfl, hb⟩
      replace hM := hM.step hb
      clear hb hS
      have hS := HeldM.of (hM.subL (L' := [⟨g12, 30, 17, pubC (h : Nat) Z⟩, ⟨g10, 31, 562, sigC (k : Nat) ch B h c'⟩, ⟨g9, 48, 33, secC s (h : Nat)⟩, ⟨g7, 22, 16, ndC d⟩, ⟨g4, 44, 32, cellsOf .u8 s.val⟩]) (List.Sublist.refl _))
      go_wp2_with fail
      refine then_normal ⟨hS, ?_⟩
      refine wpAllH_takes [22, 23, 24] (by kernel_rfl) (fun _ _ _ _ _ h => h) hS (by kernel_rfl) ?_
      simp only [pickOps, List.filterMap_cons, List.filterMap_nil, List.getElem?_cons_zero, List.getElem?_cons_succ]
      repeat ((with_reducible apply wpHeld_stepG); (· rfl); (· (intro w hSw; first | (go_simp; rfl) | (fail))); intro K hK; go_simp; (with_reducible refine hK _ ?_); clear hK K)
      refine wpHeld_nil ?_
      refine wpAllH_done (by kernel_rfl) ?_
      go_wp2_with fail
      go_ret
      exact ⟨rfl, hM.below⟩
end Go.Proofs.YtdnnjgjaffkdfaaDoor
