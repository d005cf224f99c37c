/- MerkleCollision: the walk. MerkleCollision's arguments. -/
import Derived.Test.YtcfojkecmchbdaaDoorMnp
import Derived.Test.YtcfojkecmchbdaaDoorMch
import Derived.Test.YtcfojkecmchbdaaDoorMnn
namespace Go.Lin
open Go Go.Bul
theorem twoO_form (xs ys : List (Nd × Nd)) (o : Option Nat) : ∃ lev p q, twoO xs ys o = twoC lev p q := by
  cases o with
  | none => exact ⟨0, (nd0, nd0), (nd0, nd0), rfl⟩
  | some k => exact ⟨_, _, _, rfl⟩
theorem ndCells_two (a b : Nd) : ndCells [a, b] = vals .u8 (a.val ++ b.val) := by simp [ndCells, vals]
end Go.Lin
namespace Go.Proofs.YtcfojkecmchbdaaDoor
open Go Go.RowKit Go.Bul Go.Thg Go.Lin
theorem nin_A {w w0 : World} {G : List Nat} {L : List Ent} {R : List Thing} {g : Nat} {t : TypeId} {lev : Int} {p q : Nd × Nd} (hM : Mem G w0 L R w) (hL : ⟨g, t, 65, twoC lev p q⟩ ∈ L) : NIn w (some ⟨g, 1, none⟩) 2 [p.1, p.2] := by
  have hB := hM.blk hL
  refine ⟨by rw [ndCells_length]; rfl, fun _ => ⟨g, 1, rfl, hB.lt, fun j u hu => (hB.cell _).trans ?_⟩⟩
  rw [ndCells_two] at hu
  have hj : j < 32 := by
    have := (List.getElem?_eq_some_iff.1 hu).1
    rwa [pr_len] at this
  rw [Nat.add_comm 1 j]
  show (twoL lev p q).toArray[j + 1]? = some u
  rw [List.getElem?_toArray]
  unfold twoL
  rw [List.getElem?_cons_succ, List.getElem?_append_left (by rw [pr_len]; exact hj)]
  exact hu
theorem nin_B {w w0 : World} {G : List Nat} {L : List Ent} {R : List Thing} {g : Nat} {t : TypeId} {lev : Int} {p q : Nd × Nd} (hM : Mem G w0 L R w) (hL : ⟨g, t, 65, twoC lev p q⟩ ∈ L) : NIn w (some ⟨g, 33, none⟩) 2 [q.1, q.2] := by
  have hB := hM.blk hL
  refine ⟨by rw [ndCells_length]; rfl, fun _ => ⟨g, 33, rfl, hB.lt, fun j u hu => (hB.cell _).trans ?_⟩⟩
  rw [ndCells_two] at hu
  have hj : j < 32 := by
    have := (List.getElem?_eq_some_iff.1 hu).1
    rwa [pr_len] at this
  rw [show 33 + j = 32 + j + 1 by omega]
  show (twoL lev p q).toArray[32 + j + 1]? = some u
  rw [List.getElem?_toArray]
  unfold twoL
  rw [List.getElem?_cons_succ, List.getElem?_append_right (by rw [pr_len]; omega), pr_len, show 32 + j - 32 = j by omega]
  exact hu
set_option maxRecDepth 20000 in
set_option maxHeartbeats 8000000 in
theorem mcoll_any (idx : Int) (x : Nd) (A : Option Addr) (n c : Nat) (pa : List Nd) (ix2 : Int) (y : Nd) (B : Option Addr) (m d : Nat) (pb : List Nd) (w : World) (hA : NIn w A n pa) (hB : NIn w B m pb) (hn : n ≤ 9223372036854775807) (hm : m ≤ 9223372036854775807) (hT : Tab w) :
    Calls Tryd.prog 6 #[.agg (claimC idx x A n c), .agg (claimC ix2 y B m d)] w fun e w' => e = .returned (.bool true) ∧ Below w.heap.size w w' := by
  have hM := Mem.start [] w
  have HK := Lib.hid (fun w' (hb : Below w.heap.size w w') => known_any w' (hT.keep hb))
  have HX0 := Lib.hid (cl_0 idx x A n c)
  have HX17 := Lib.hid (cl_17 idx x A n c)
  have HXN := Lib.hid (cl_nd idx x A n c)
  have HXS := Lib.hid (cl_size idx x A n c)
  have HY17 := Lib.hid (cl_17 ix2 y B m d)
  have HYN := Lib.hid (cl_nd ix2 y B m d)
  have HYS := Lib.hid (cl_size ix2 y B m d)
  generalize claimC idx x A n c = X at HX0 HX17 HXN HXS ⊢
  generalize claimC ix2 y B m d = Y at HY17 HYN HYS ⊢
  by_cases h12 : 12 < n
  · have c1 : decide ((12 : Int) < (n : Int)) = true := decide_eq_true (by omega)
    have c2 : decide (12 < n) = true := decide_eq_true h12
    clear hA hB hn hm hT h12
    go_enter Tryd.func6, Tryd.ntmps6
    go_upto_region 1 with (first | (refine lb hM ?_ (cs := X) (ty := 48) (hn := HXS.out) (hty := row_claim); clear hM; intro g3 w3 hM) | (refine lb hM ?_ (cs := Y) (ty := 48) (hn := HYS.out) (hty := row_claim); clear hM; intro g3 w3 hM))
    obtain ⟨g3, hg3⟩ := hM.name1
    obtain ⟨g2, hg2⟩ := (hM.subL (List.sublist_cons_self _ _)).name1
    subst hg3 hg2
    go_wp2_with (first | ((with_reducible refine (HK.out _ hM.below).mono ?_); rintro e w1 ⟨rfl, hb⟩; replace hM := hM.step hb; clear hb) | ((first | with_reducible refine at_load ?_ | ((with_reducible refine at_load_g ?_ ?_); (· rfl))); first | refine lcx HX17.out hM ?_ | refine lcx HY17.out hM ?_))
    go_ret
    exact ⟨rfl, hM.below⟩
  · have c1 : decide ((12 : Int) < (n : Int)) = false := decide_eq_false (by omega)
    have c2 : decide (12 < n) = false := decide_eq_false h12
    by_cases h12b : 12 < m
    · have c3 : decide ((12 : Int) < (m : Int)) = true := decide_eq_true (by omega)
      have c4 : decide (12 < m) = true := decide_eq_true h12b
      clear hA hB hn hm hT h12 h12b
      go_enter Tryd.func6, Tryd.ntmps6
      go_upto_region 1 with (first | (refine lb hM ?_ (cs := X) (ty := 48) (hn := HXS.out) (hty := row_claim); clear hM; intro g3 w3 hM) | (refine lb hM ?_ (cs := Y) (ty := 48) (hn := HYS.out) (hty := row_claim); clear hM; intro g3 w3 hM))
      obtain ⟨g3, hg3⟩ := hM.name1
      obtain ⟨g2, hg2⟩ := (hM.subL (List.sublist_cons_self _ _)).name1
      subst hg3 hg2
      go_wp2_with (first | ((with_reducible refine (HK.out _ hM.below).mono ?_); rintro e w1 ⟨rfl, hb⟩; replace hM := hM.step hb; clear hb) | ((first | with_reducible refine at_load ?_ | ((with_reducible refine at_load_g ?_ ?_); (· rfl))); first | refine lcx HX17.out hM ?_ | refine lcx HY17.out hM ?_))
      go_ret
      exact ⟨rfl, hM.below⟩
    · have c3 : decide ((12 : Int) < (m : Int)) = false := decide_eq_false (by omega)
      have c4 : decide (12 < m) = false := decide_eq_false h12b
      have HOA := Lib.hid (fun w' (hb : Below w.heap.size w w') => own_any A n c pa w' (hA.keep hb) (by omega))
      have HOB := Lib.hid (fun w' (hb : Below w.heap.size w w') => own_any B m d pb w' (hB.keep hb) (by omega))
      have HC := Lib.hid (fun A' c' B' d' w' (h1 : NIn w' A' n pa) (h2 : NIn w' B' m pb) (hb : Below w.heap.size w w') => coll_any idx x A' n c' pa y B' m d' pb w' h1 h2 (by omega) (by omega) (hT.keep hb))
      have HRC := Lib.hid (fun w' (hb : Below w.heap.size w w') => rcoll_any idx x A n c pa y B m d pb w' (hA.keep hb) (hB.keep hb) (by omega) (by omega))
      obtain ⟨lev, p, q, hTT⟩ := twoO_form (pairsF idx 0 x pa) (pairsF idx 0 y pb) (collO idx x pa y pb)
      rw [hTT] at HC HRC
      generalize (collO idx x pa y pb).isSome = ob at HC HRC
      clear hA hB hn hm hT h12 h12b hTT
      go_enter Tryd.func6, Tryd.ntmps6
      go_upto_region 1 with (first | (refine lb hM ?_ (cs := X) (ty := 48) (hn := HXS.out) (hty := row_claim); clear hM; intro g3 w3 hM) | (refine lb hM ?_ (cs := Y) (ty := 48) (hn := HYS.out) (hty := row_claim); clear hM; intro g3 w3 hM))
      obtain ⟨g3, hg3⟩ := hM.name1
      obtain ⟨g2, hg2⟩ := (hM.subL (List.sublist_cons_self _ _)).name1
      subst hg3 hg2
      go_upto_region 3 with (first | ((with_reducible refine (HK.out _ hM.below).mono ?_); rintro e w1 ⟨rfl, hb⟩; replace hM := hM.step hb; clear hb) | ((first | with_reducible refine at_load ?_ | ((with_reducible refine at_load_g ?_ ?_); (· rfl))); first | refine lcx HX17.out hM ?_ | refine lcx HY17.out hM ?_))
      refine wp_region_allHM hM (HeldM [⟨g3, 48, 18, Y⟩, ⟨g2, 48, 18, X⟩]) (by kernel_rfl) ?_
      clear hM
      intro wd hM
      have hS := HeldM.of (hM.subL (L' := [⟨g3, 48, 18, Y⟩, ⟨g2, 48, 18, X⟩]) (List.Sublist.refl _))
      refine wpAllH_takes [0, 1, 2, 3, 4, 5, 7, 8, 9, 10] (by kernel_rfl) (fun _ _ _ _ _ h => h) hS (by kernel_rfl) ?_
      simp only [pickOps, List.filterMap_cons, List.filterMap_nil, List.getElem?_cons_zero, List.getElem?_cons_succ]
      repeat ((with_reducible apply wpHeld_step); (· rfl); (· (intro w hSw; first | (go_simp; rfl) | ((obtain ⟨_, _, _, hM'⟩ := hSw; first | exact yields_load (C := fun _ => True) (qp hM' (hX := HXN.out)) rfl | exact yields_load (C := fun _ => True) (qp hM' (hX := HYN.out)) rfl | exact yields_load (C := fun _ => True) (qc hM' (hv := HX0.out)) rfl | exact yields_load (C := fun _ => True) (qc hM' (hv := HX17.out)) rfl | exact yields_load (C := fun _ => True) (qc hM' (hv := HY17.out)) rfl)))); intro K hK; go_simp; (with_reducible refine hK _ ?_); clear hK K)
      refine wpHeld_nil ?_
      refine wpAllH_two 6 16 rfl rfl (by kernel_rfl) ?_ ?_
      · go_wp2_with fail
        refine (HOA.out _ hM.below).mono ?_
        rintro e w1 ⟨AHOA, cHOA, rfl, hb⟩
        replace hM := hM.newThing hb
        clear hb hS
        have hS := HeldM.of (hM.subL (L' := [⟨g3, 48, 18, Y⟩, ⟨g2, 48, 18, X⟩]) (List.Sublist.refl _))
        go_wp2_with fail
        refine then_normal ⟨hS, ?_⟩
        refine wpAllH_two 11 16 rfl rfl (by kernel_rfl) ?_ ?_
        · go_wp2_with fail
          refine (HOB.out _ hM.below).mono ?_
          rintro e w1 ⟨AHOB, cHOB, rfl, hb⟩
          replace hM := hM.newThing hb
          clear hb hS
          have hS := HeldM.of (hM.subL (L' := [⟨g3, 48, 18, Y⟩, ⟨g2, 48, 18, X⟩]) (List.Sublist.refl _))
          go_wp2_with fail
          refine then_normal ⟨hS, ?_⟩
          refine wpAllH_two 12 16 rfl rfl (by kernel_rfl) ?_ ?_
          · go_wp2_with fail
            refine (HC.out _ _ _ _ _ (ndT_in (hM.thing _ (List.Mem.tail _ (List.Mem.head _)))) (ndT_in (hM.thing _ (List.Mem.head _))) hM.below).mono ?_
            rintro e w1 ⟨rfl, hb⟩
            replace hM := hM.step hb
            clear hb hS
            have hS := HeldM.of (hM.subL (L' := [⟨g3, 48, 18, Y⟩, ⟨g2, 48, 18, X⟩]) (List.Sublist.refl _))
            go_wp2_with fail
            refine then_normal ⟨hS, ?_⟩
            refine wpAllH_takes [13, 14, 15] (by kernel_rfl) (fun _ _ _ _ _ h => h) hS (by kernel_rfl) ?_
            simp only [pickOps, List.filterMap_cons, List.filterMap_nil, List.getElem?_cons_zero, List.getElem?_cons_succ]
            repeat ((with_reducible apply wpHeld_step); (· rfl); (· (intro w hSw; first | (go_simp; rfl) | (fail))); intro K hK; go_simp; (with_reducible refine hK _ ?_); clear hK K)
            refine wpHeld_nil ?_
            refine wpAllH_one 16 rfl (by kernel_rfl) ?_
            refine lz hM ?_ (hz := zero_mtwo)
            clear hM hS
            intro g5 wz hM
            have hS := HeldM.of (hM.subL (L' := [⟨g3, 48, 18, Y⟩, ⟨g2, 48, 18, X⟩]) (List.sublist_cons_self _ _))
            refine wpList_then ⟨hS, ?_⟩
            refine wpAllH_one 17 rfl (by kernel_rfl) ?_
            refine lw hM ?_ (hs := twoC_size _ _ _) (h1 := twoC_one _ _ _) (hty := row_two)
            clear hM hS
            intro wy hM
            have hS := HeldM.of (hM.subL (L' := [⟨g3, 48, 18, Y⟩, ⟨g2, 48, 18, X⟩]) (List.sublist_cons_self _ _))
            refine wpList_then ⟨hS, ?_⟩
            refine wpAllH_takes [18] (by kernel_rfl) (fun _ _ _ _ _ h => h) hS (by kernel_rfl) ?_
            simp only [pickOps, List.filterMap_cons, List.filterMap_nil, List.getElem?_cons_zero, List.getElem?_cons_succ]
            repeat ((with_reducible apply wpHeld_step); (· rfl); (· (intro w hSw; first | (go_simp; rfl) | (fail))); intro K hK; go_simp; (with_reducible refine hK _ ?_); clear hK K)
            refine wpHeld_nil ?_
            refine wpAllH_done (by kernel_rfl) ?_
            clear hS
            go_upto_region 5 with (first | ((with_reducible refine (HRC.out _ hM.below).mono ?_); rintro e w1 ⟨rfl, hb⟩; replace hM := hM.step hb; clear hb) | (refine lz hM ?_ (hz := zero_rtwo); clear hM; intro g7 wz hM) | ((with_reducible refine at_load ?_); first | refine lcx HX17.out hM ?_ | refine lcx HY17.out hM ?_ | refine lcx HX0.out hM ?_ | refine lp hM ?_ (hX := HXN.out) | refine lp hM ?_ (hX := HYN.out)) | ((with_reducible refine at_store ?_); refine lw hM ?_ (hs := twoC_size _ _ _) (h1 := twoC_one _ _ _) (hty := row_rtwo); clear hM; intro wx hM))
            obtain ⟨g7, hg7⟩ := hM.name1
            subst hg7
            refine Go.Bul.wp_region_class (Mem _ w _ _) (by kernel_rfl) (by kernel_rfl) hM.drew ?_
            repeat ((with_reducible refine wpQuiet_step (fun K hK => ?_)); (first | ((first | ((with_reducible refine quiet_some ?_ ?_); (· rfl)) | ((with_reducible refine quiet_wanted ?_ ?_); (· rfl))); apply Exists.intro; refine ⟨fun w' hM' => ?_, ?_⟩; (· first | (go_simp; rfl) | exact qc hM' (hv := twoC_0 _ _ _) | (go_simp; with_reducible refine at_calls ?_; first | exact quiet_mem_call hM' (same_yes _ 2 2 _ 2 2 _ _ (nin_A hM' (t := 57) (List.Mem.tail _ (List.Mem.head _))) (nin_A hM' (t := 61) (List.Mem.head _)) (by decide)) | exact quiet_mem_call hM' (same_yes _ 2 2 _ 2 2 _ _ (nin_B hM' (t := 57) (List.Mem.tail _ (List.Mem.head _))) (nin_B hM' (t := 61) (List.Mem.head _)) (by decide))) | exact qc hM' | exact ql hM' | exact qp hM')) | ((with_reducible refine quiet_unwanted ?_ ?_); (· rfl))); go_simp; (with_reducible refine hK _ ?_); clear hK K)
            refine wpQuiet_nil ?_
            intro wx hM
            go_wp2_with fail
            go_ret
            exact ⟨rfl, hM.below⟩
          · refine lz hM ?_ (hz := zero_mtwo)
            clear hM hS
            intro g5 wz hM
            have hS := HeldM.of (hM.subL (L' := [⟨g3, 48, 18, Y⟩, ⟨g2, 48, 18, X⟩]) (List.sublist_cons_self _ _))
            refine wpList_then ⟨hS, ?_⟩
            refine wpAllH_one 12 rfl (by kernel_rfl) ?_
            go_wp2_with fail
            refine (HC.out _ _ _ _ _ (ndT_in (hM.thing _ (List.Mem.tail _ (List.Mem.head _)))) (ndT_in (hM.thing _ (List.Mem.head _))) hM.below).mono ?_
            rintro e w1 ⟨rfl, hb⟩
            replace hM := hM.step hb
            clear hb hS
            have hS := HeldM.of (hM.subL (L' := [⟨g3, 48, 18, Y⟩, ⟨g2, 48, 18, X⟩]) (List.sublist_cons_self _ _))
            go_wp2_with fail
            refine then_normal ⟨hS, ?_⟩
            refine wpAllH_takes [13, 14, 15] (by kernel_rfl) (fun _ _ _ _ _ h => h) hS (by kernel_rfl) ?_
            simp only [pickOps, List.filterMap_cons, List.filterMap_nil, List.getElem?_cons_zero, List.getElem?_cons_succ]
            repeat ((with_reducible apply wpHeld_step); (· rfl); (· (intro w hSw; first | (go_simp; rfl) | (fail))); intro K hK; go_simp; (with_reducible refine hK _ ?_); clear hK K)
            refine wpHeld_nil ?_
            refine wpAllH_one 17 rfl (by kernel_rfl) ?_
            refine lw hM ?_ (hs := twoC_size _ _ _) (h1 := twoC_one _ _ _) (hty := row_two)
            clear hM hS
            intro wy hM
            have hS := HeldM.of (hM.subL (L' := [⟨g3, 48, 18, Y⟩, ⟨g2, 48, 18, X⟩]) (List.sublist_cons_self _ _))
            refine wpList_then ⟨hS, ?_⟩
            refine wpAllH_takes [18] (by kernel_rfl) (fun _ _ _ _ _ h => h) hS (by kernel_rfl) ?_
            simp only [pickOps, List.filterMap_cons, List.filterMap_nil, List.getElem?_cons_zero, List.getElem?_cons_succ]
            repeat ((with_reducible apply wpHeld_step); (· rfl); (· (intro w hSw; first | (go_simp; rfl) | (fail))); intro K hK; go_simp; (with_reducible refine hK _ ?_); clear hK K)
            refine wpHeld_nil ?_
            refine wpAllH_done (by kernel_rfl) ?_
            clear hS
            go_upto_region 5 with (first | ((with_reducible refine (HRC.out _ hM.below).mono ?_); rintro e w1 ⟨rfl, hb⟩; replace hM := hM.step hb; clear hb) | (refine lz hM ?_ (hz := zero_rtwo); clear hM; intro g7 wz hM) | ((with_reducible refine at_load ?_); first | refine lcx HX17.out hM ?_ | refine lcx HY17.out hM ?_ | refine lcx HX0.out hM ?_ | refine lp hM ?_ (hX := HXN.out) | refine lp hM ?_ (hX := HYN.out)) | ((with_reducible refine at_store ?_); refine lw hM ?_ (hs := twoC_size _ _ _) (h1 := twoC_one _ _ _) (hty := row_rtwo); clear hM; intro wx hM))
            obtain ⟨g7, hg7⟩ := hM.name1
            subst hg7
            refine Go.Bul.wp_region_class (Mem _ w _ _) (by kernel_rfl) (by kernel_rfl) hM.drew ?_
            repeat ((with_reducible refine wpQuiet_step (fun K hK => ?_)); (first | ((first | ((with_reducible refine quiet_some ?_ ?_); (· rfl)) | ((with_reducible refine quiet_wanted ?_ ?_); (· rfl))); apply Exists.intro; refine ⟨fun w' hM' => ?_, ?_⟩; (· first | (go_simp; rfl) | exact qc hM' (hv := twoC_0 _ _ _) | (go_simp; with_reducible refine at_calls ?_; first | exact quiet_mem_call hM' (same_yes _ 2 2 _ 2 2 _ _ (nin_A hM' (t := 57) (List.Mem.tail _ (List.Mem.head _))) (nin_A hM' (t := 61) (List.Mem.head _)) (by decide)) | exact quiet_mem_call hM' (same_yes _ 2 2 _ 2 2 _ _ (nin_B hM' (t := 57) (List.Mem.tail _ (List.Mem.head _))) (nin_B hM' (t := 61) (List.Mem.head _)) (by decide))) | exact qc hM' | exact ql hM' | exact qp hM')) | ((with_reducible refine quiet_unwanted ?_ ?_); (· rfl))); go_simp; (with_reducible refine hK _ ?_); clear hK K)
            refine wpQuiet_nil ?_
            intro wx hM
            go_wp2_with fail
            go_ret
            exact ⟨rfl, hM.below⟩
        · refine lz hM ?_ (hz := zero_mtwo)
          clear hM hS
          intro g5 wz hM
          have hS := HeldM.of (hM.subL (L' := [⟨g3, 48, 18, Y⟩, ⟨g2, 48, 18, X⟩]) (List.sublist_cons_self _ _))
          refine wpList_then ⟨hS, ?_⟩
          refine wpAllH_one 11 rfl (by kernel_rfl) ?_
          go_wp2_with fail
          refine (HOB.out _ hM.below).mono ?_
          rintro e w1 ⟨AHOB, cHOB, rfl, hb⟩
          replace hM := hM.newThing hb
          clear hb hS
          have hS := HeldM.of (hM.subL (L' := [⟨g3, 48, 18, Y⟩, ⟨g2, 48, 18, X⟩]) (List.sublist_cons_self _ _))
          go_wp2_with fail
          refine then_normal ⟨hS, ?_⟩
          refine wpAllH_one 12 rfl (by kernel_rfl) ?_
          go_wp2_with fail
          refine (HC.out _ _ _ _ _ (ndT_in (hM.thing _ (List.Mem.tail _ (List.Mem.head _)))) (ndT_in (hM.thing _ (List.Mem.head _))) hM.below).mono ?_
          rintro e w1 ⟨rfl, hb⟩
          replace hM := hM.step hb
          clear hb hS
          have hS := HeldM.of (hM.subL (L' := [⟨g3, 48, 18, Y⟩, ⟨g2, 48, 18, X⟩]) (List.sublist_cons_self _ _))
          go_wp2_with fail
          refine then_normal ⟨hS, ?_⟩
          refine wpAllH_takes [13, 14, 15] (by kernel_rfl) (fun _ _ _ _ _ h => h) hS (by kernel_rfl) ?_
          simp only [pickOps, List.filterMap_cons, List.filterMap_nil, List.getElem?_cons_zero, List.getElem?_cons_succ]
          repeat ((with_reducible apply wpHeld_step); (· rfl); (· (intro w hSw; first | (go_simp; rfl) | (fail))); intro K hK; go_simp; (with_reducible refine hK _ ?_); clear hK K)
          refine wpHeld_nil ?_
          refine wpAllH_one 17 rfl (by kernel_rfl) ?_
          refine lw hM ?_ (hs := twoC_size _ _ _) (h1 := twoC_one _ _ _) (hty := row_two)
          clear hM hS
          intro wy hM
          have hS := HeldM.of (hM.subL (L' := [⟨g3, 48, 18, Y⟩, ⟨g2, 48, 18, X⟩]) (List.sublist_cons_self _ _))
          refine wpList_then ⟨hS, ?_⟩
          refine wpAllH_takes [18] (by kernel_rfl) (fun _ _ _ _ _ h => h) hS (by kernel_rfl) ?_
          simp only [pickOps, List.filterMap_cons, List.filterMap_nil, List.getElem?_cons_zero, List.getElem?_cons_succ]
          repeat ((with_reducible apply wpHeld_step); (· rfl); (· (intro w hSw; first | (go_simp; rfl) | (fail))); intro K hK; go_simp; (with_reducible refine hK _ ?_); clear hK K)
          refine wpHeld_nil ?_
          refine wpAllH_done (by kernel_rfl) ?_
          clear hS
          go_upto_region 5 with (first | ((with_reducible refine (HRC.out _ hM.below).mono ?_); rintro e w1 ⟨rfl, hb⟩; replace hM := hM.step hb; clear hb) | (refine lz hM ?_ (hz := zero_rtwo); clear hM; intro g7 wz hM) | ((with_reducible refine at_load ?_); first | refine lcx HX17.out hM ?_ | refine lcx HY17.out hM ?_ | refine lcx HX0.out hM ?_ | refine lp hM ?_ (hX := HXN.out) | refine lp hM ?_ (hX := HYN.out)) | ((with_reducible refine at_store ?_); refine lw hM ?_ (hs := twoC_size _ _ _) (h1 := twoC_one _ _ _) (hty := row_rtwo); clear hM; intro wx hM))
          obtain ⟨g7, hg7⟩ := hM.name1
          subst hg7
          refine Go.Bul.wp_region_class (Mem _ w _ _) (by kernel_rfl) (by kernel_rfl) hM.drew ?_
          repeat ((with_reducible refine wpQuiet_step (fun K hK => ?_)); (first | ((first | ((with_reducible refine quiet_some ?_ ?_); (· rfl)) | ((with_reducible refine quiet_wanted ?_ ?_); (· rfl))); apply Exists.intro; refine ⟨fun w' hM' => ?_, ?_⟩; (· first | (go_simp; rfl) | exact qc hM' (hv := twoC_0 _ _ _) | (go_simp; with_reducible refine at_calls ?_; first | exact quiet_mem_call hM' (same_yes _ 2 2 _ 2 2 _ _ (nin_A hM' (t := 57) (List.Mem.tail _ (List.Mem.head _))) (nin_A hM' (t := 61) (List.Mem.head _)) (by decide)) | exact quiet_mem_call hM' (same_yes _ 2 2 _ 2 2 _ _ (nin_B hM' (t := 57) (List.Mem.tail _ (List.Mem.head _))) (nin_B hM' (t := 61) (List.Mem.head _)) (by decide))) | exact qc hM' | exact ql hM' | exact qp hM')) | ((with_reducible refine quiet_unwanted ?_ ?_); (· rfl))); go_simp; (with_reducible refine hK _ ?_); clear hK K)
          refine wpQuiet_nil ?_
          intro wx hM
          go_wp2_with fail
          go_ret
          exact ⟨rfl, hM.below⟩
      · refine lz hM ?_ (hz := zero_mtwo)
        clear hM hS
        intro g5 wz hM
        have hS := HeldM.of (hM.subL (L' := [⟨g3, 48, 18, Y⟩, ⟨g2, 48, 18, X⟩]) (List.sublist_cons_self _ _))
        refine wpList_then ⟨hS, ?_⟩
        refine wpAllH_one 6 rfl (by kernel_rfl) ?_
        go_wp2_with fail
        refine (HOA.out _ hM.below).mono ?_
        rintro e w1 ⟨AHOA, cHOA, rfl, hb⟩
        replace hM := hM.newThing hb
        clear hb hS
        have hS := HeldM.of (hM.subL (L' := [⟨g3, 48, 18, Y⟩, ⟨g2, 48, 18, X⟩]) (List.sublist_cons_self _ _))
        go_wp2_with fail
        refine then_normal ⟨hS, ?_⟩
        refine wpAllH_one 11 rfl (by kernel_rfl) ?_
        go_wp2_with fail
        refine (HOB.out _ hM.below).mono ?_
        rintro e w1 ⟨AHOB, cHOB, rfl, hb⟩
        replace hM := hM.newThing hb
        clear hb hS
        have hS := HeldM.of (hM.subL (L' := [⟨g3, 48, 18, Y⟩, ⟨g2, 48, 18, X⟩]) (List.sublist_cons_self _ _))
        go_wp2_with fail
        refine then_normal ⟨hS, ?_⟩
        refine wpAllH_one 12 rfl (by kernel_rfl) ?_
        go_wp2_with fail
        refine (HC.out _ _ _ _ _ (ndT_in (hM.thing _ (List.Mem.tail _ (List.Mem.head _)))) (ndT_in (hM.thing _ (List.Mem.head _))) hM.below).mono ?_
        rintro e w1 ⟨rfl, hb⟩
        replace hM := hM.step hb
        clear hb hS
        have hS := HeldM.of (hM.subL (L' := [⟨g3, 48, 18, Y⟩, ⟨g2, 48, 18, X⟩]) (List.sublist_cons_self _ _))
        go_wp2_with fail
        refine then_normal ⟨hS, ?_⟩
        refine wpAllH_takes [13, 14, 15] (by kernel_rfl) (fun _ _ _ _ _ h => h) hS (by kernel_rfl) ?_
        simp only [pickOps, List.filterMap_cons, List.filterMap_nil, List.getElem?_cons_zero, List.getElem?_cons_succ]
        repeat ((with_reducible apply wpHeld_step); (· rfl); (· (intro w hSw; first | (go_simp; rfl) | (fail))); intro K hK; go_simp; (with_reducible refine hK _ ?_); clear hK K)
        refine wpHeld_nil ?_
        refine wpAllH_one 17 rfl (by kernel_rfl) ?_
        refine lw hM ?_ (hs := twoC_size _ _ _) (h1 := twoC_one _ _ _) (hty := row_two)
        clear hM hS
        intro wy hM
        have hS := HeldM.of (hM.subL (L' := [⟨g3, 48, 18, Y⟩, ⟨g2, 48, 18, X⟩]) (List.sublist_cons_self _ _))
        refine wpList_then ⟨hS, ?_⟩
        refine wpAllH_takes [18] (by kernel_rfl) (fun _ _ _ _ _ h => h) hS (by kernel_rfl) ?_
        simp only [pickOps, List.filterMap_cons, List.filterMap_nil, List.getElem?_cons_zero, List.getElem?_cons_succ]
        repeat ((with_reducible apply wpHeld_step); (· rfl); (· (intro w hSw; first | (go_simp; rfl) | (fail))); intro K hK; go_simp; (with_reducible refine hK _ ?_); clear hK K)
        refine wpHeld_nil ?_
        refine wpAllH_done (by kernel_rfl) ?_
        clear hS
        go_upto_region 5 with (first | ((with_reducible refine (HRC.out _ hM.below).mono ?_); rintro e w1 ⟨rfl, hb⟩; replace hM := hM.step hb; clear hb) | (refine lz hM ?_ (hz := zero_rtwo); clear hM; intro g7 wz hM) | ((with_reducible refine at_load ?_); first | refine lcx HX17.out hM ?_ | refine lcx HY17.out hM ?_ | refine lcx HX0.out hM ?_ | refine lp hM ?_ (hX := HXN.out) | refine lp hM ?_ (hX := HYN.out)) | ((with_reducible refine at_store ?_); refine lw hM ?_ (hs := twoC_size _ _ _) (h1 := twoC_one _ _ _) (hty := row_rtwo); clear hM; intro wx hM))
        obtain ⟨g7, hg7⟩ := hM.name1
        subst hg7
        refine Go.Bul.wp_region_class (Mem _ w _ _) (by kernel_rfl) (by kernel_rfl) hM.drew ?_
        repeat ((with_reducible refine wpQuiet_step (fun K hK => ?_)); (first | ((first | ((with_reducible refine quiet_some ?_ ?_); (· rfl)) | ((with_reducible refine quiet_wanted ?_ ?_); (· rfl))); apply Exists.intro; refine ⟨fun w' hM' => ?_, ?_⟩; (· first | (go_simp; rfl) | exact qc hM' (hv := twoC_0 _ _ _) | (go_simp; with_reducible refine at_calls ?_; first | exact quiet_mem_call hM' (same_yes _ 2 2 _ 2 2 _ _ (nin_A hM' (t := 57) (List.Mem.tail _ (List.Mem.head _))) (nin_A hM' (t := 61) (List.Mem.head _)) (by decide)) | exact quiet_mem_call hM' (same_yes _ 2 2 _ 2 2 _ _ (nin_B hM' (t := 57) (List.Mem.tail _ (List.Mem.head _))) (nin_B hM' (t := 61) (List.Mem.head _)) (by decide))) | exact qc hM' | exact ql hM' | exact qp hM')) | ((with_reducible refine quiet_unwanted ?_ ?_); (· rfl))); go_simp; (with_reducible refine hK _ ?_); clear hK K)
        refine wpQuiet_nil ?_
        intro wx hM
        go_wp2_with fail
        go_ret
        exact ⟨rfl, hM.below⟩
end Go.Proofs.YtcfojkecmchbdaaDoor
namespace Go.Proofs.YtcfojkecmchbdaaDoor
open Go Go.RowKit Go.Bul Go.Lin Go.Thg
theorem mcoll_row (ix : Int) (x : Nd) (A : Option Addr) (n c : Nat) (bs : List Nat) (iy : Int) (y : Nd) (B : Option Addr) (m d : Nat) (cs : List Nat) (w : World) (hr : RdArr w A n 16 bs) (hn : n ≤ c) (hc : c ≤ 9223372036854775807) (hr2 : RdArr w B m 16 cs) (hm : m ≤ d) (hd : d ≤ 9223372036854775807) (hT : Tab w) :
    Calls Tryd.prog 6 #[.agg (claimC ix x A n c), .agg (claimC iy y B m d)] w fun e w' => e = .returned (.bool true) ∧ Below w.heap.size w w' := by
  obtain ⟨l, hl⟩ := nin_of hr
  obtain ⟨p, hp⟩ := nin_of hr2
  exact mcoll_any ix x A n c l iy y B m d p w hl hp (by omega) (by omega) hT
end Go.Proofs.YtcfojkecmchbdaaDoor
