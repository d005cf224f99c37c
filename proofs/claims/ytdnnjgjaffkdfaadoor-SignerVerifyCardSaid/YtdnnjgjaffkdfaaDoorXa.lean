/- The reference: Reach. The reference: Verify. -/
import Derived.Test.YtdnnjgjaffkdfaaDoorWl
namespace Go.Proofs.YtdnnjgjaffkdfaaDoor
open Go Go.RowKit Go.Bul Go.Thg Go.Lin
set_option maxRecDepth 20000 in
set_option maxHeartbeats 4000000 in
theorem rreach_any (k : Nat) (ch : Ch) (A : Option Addr) (n c : Nat) (path : List Nd) (d : Nd) (w : World) (hr : NIn w A n path) (hc : sgE (k : Nat) n = 0) :
    Calls Tryd.prog 18 #[.agg (ndC d), .agg (sigC (k : Nat) ch A n c)] w fun e w' => e = .returned (.agg (ndC (rootS k d ch path))) ∧ Below w.heap.size w w' := by
  have hM := Mem.start [] w
  have hl := hr.len
  obtain ⟨hn1, hn8, hk8⟩ := sgE_bounds hc
  have HS := Lib.hid (sigC_size (k : Nat) ch A n c)
  have H0 := Lib.hid (sigC_0 (k : Nat) ch A n c)
  have HP := Lib.hid (sigC_p (k : Nat) ch A n c)
  have HV := Lib.hid (fun w => rvalue_any k ch A n c d w (by omega))
  have HLF := Lib.hid (fun A c w' (hr : Reads w' 1 A 16 (vals .u8 (rcN k d ch).val)) => rleaf_any (k : Nat) A 16 c (rcN k d ch).val w' hr (rcN k d ch).byt (by decide))
  have hZ : climbs (k : Nat) 0 (leafN (k : Int) (rcN k d ch).val) path = rootS k d ch path := by
    unfold rootS fromF
    have h2 : (k : Int) < 2 ^ path.length := by
      unfold sgE at hc
      split at hc
      · rename_i h
        rw [← hl]
        exact h.2.2
      · cases hc
    rw [if_neg (by omega), if_neg (by omega)]
  generalize rootS k d ch path = Z at hZ ⊢
  have hzl := (rcN k d ch).len
  generalize leafN (k : Int) (rcN k d ch).val = x0 at HLF hZ
  generalize rcN k d ch = v at HV HLF
  generalize sigC (k : Nat) ch A n c = X at HS H0 HP HV ⊢
  have HR := Lib.hid hr
  have HL := Lib.hid hl
  have HZ := Lib.hid hZ
  have k0 : (0 : Int) ≤ (k : Int) := Int.natCast_nonneg _
  have k1 : (k : Int) < 256 := by omega
  have n1 : (n : Int) ≤ 8 := by omega
  clear hr hc hl hZ hzl
  go_enter Tryd.func18, Tryd.ntmps18
  go_upto_region 2 with (first | ((with_reducible refine at_box ?_); first | (refine slb hM ?_ (hty := row_rsg) (hn := HS.out); clear hM; intro g3 w1 hM) | (refine slb hM ?_ (hty := row_a16) (hn := ndC_size _); clear hM; intro g2 w1 hM)) | ((with_reducible refine at_alloc ?_); refine slz hM ?_ (hz := zero_a16); clear hM; intro g5 w1 hM) | ((with_reducible refine at_load ?_); first | refine sll hM ?_ (hty := row_a16) | refine sll hM ?_ (hty := row_rsg)) | ((with_reducible refine (HV.out _).mono ?_); rintro e w1 ⟨rfl, hb⟩; replace hM := hM.step hb; clear hb) | ((with_reducible refine at_store ?_); refine slw hM ?_ (hs := ndC_size _) (hty := row_a16); clear hM; intro wx hM))
  obtain ⟨g5, hg5⟩ := hM.name1
  obtain ⟨g4, hg4⟩ := (hM.subL (List.sublist_cons_self _ _)).name1
  obtain ⟨g3, hg3⟩ := (hM.subL (List.Sublist.cons _ (List.sublist_cons_self _ _))).name1
  obtain ⟨g2, hg2⟩ := (hM.subL (List.Sublist.cons _ (List.Sublist.cons _ (List.sublist_cons_self _ _)))).name1
  subst hg5 hg4 hg3 hg2
  refine wp_region_allHM hM (HeldM [⟨g5, 22, 16, ndC v⟩, ⟨g3, 26, 562, X⟩]) (by kernel_rfl) ?_
  clear hM
  intro wd hM
  have hS := HeldM.of (hM.subL (L' := [⟨g5, 22, 16, ndC v⟩, ⟨g3, 26, 562, X⟩]) (List.Sublist.cons_cons _ (List.Sublist.cons _ (List.Sublist.cons_cons _ (List.nil_sublist _)))))
  refine wpAllH_takes [0, 2, 1] (by kernel_rfl) (fun _ _ _ _ _ h => h) hS (by kernel_rfl) ?_
  simp only [pickOps, List.filterMap_cons, List.filterMap_nil, List.getElem?_cons_zero, List.getElem?_cons_succ]
  repeat ((with_reducible apply wpHeld_step); (· rfl); (· (intro w hSw; first | (go_simp; rfl) | ((obtain ⟨_, _, _, hM'⟩ := hSw; exact yields_load (C := fun _ => True) (sqc hM' (hv := H0.out)) rfl)))); intro K hK; go_simp; (with_reducible refine hK _ ?_); clear hK K)
  refine wpHeld_nil ?_
  refine wpAllH_two 3 4 rfl rfl (by kernel_rfl) ?_ ?_
  · go_wp2_with fail
    refine (HLF.out _ _ _ (nd_reads hM (List.Mem.head _))).mono ?_
    rintro e w1 ⟨rfl, hb⟩
    replace hM := hM.step hb
    clear hb hS
    have hS := HeldM.of (hM.subL (L' := [⟨g5, 22, 16, ndC v⟩, ⟨g3, 26, 562, X⟩]) (List.Sublist.cons_cons _ (List.Sublist.cons _ (List.Sublist.cons_cons _ (List.nil_sublist _)))))
    go_wp2_with fail
    refine then_normal ⟨hS, ?_⟩
    refine wpAllH_one 4 rfl (by kernel_rfl) ?_
    refine slz hM ?_ (hz := zero_n)
    clear hM hS
    intro g6 wz hM
    have hS := HeldM.of (hM.subL (L' := [⟨g5, 22, 16, ndC v⟩, ⟨g3, 26, 562, X⟩]) (List.Sublist.cons _ (List.Sublist.cons_cons _ (List.Sublist.cons _ (List.Sublist.cons_cons _ (List.nil_sublist _))))))
    refine wpList_then ⟨hS, ?_⟩
    refine wpAllH_one 5 rfl (by kernel_rfl) ?_
    refine slw hM ?_ (hs := ndC_size _) (hty := row_n)
    clear hM hS
    intro wy hM
    have hS := HeldM.of (hM.subL (L' := [⟨g5, 22, 16, ndC v⟩, ⟨g3, 26, 562, X⟩]) (List.Sublist.cons _ (List.Sublist.cons_cons _ (List.Sublist.cons _ (List.Sublist.cons_cons _ (List.nil_sublist _))))))
    refine wpList_then ⟨hS, ?_⟩
    refine wpAllH_done (by kernel_rfl) ?_
    clear hS
    go_wp2_with fail
    clear HV HLF
    obtain ⟨g6, hg6⟩ := hM.name1
    subst hg6
    have M0 := Lib.hid hM
    clear hM
    go_loopw [7] (fun i wr => ∃ (j : Nat) (a : Nd), j ≤ n ∧ i = .int .i64 (j : Nat) ∧ climbs (k : Nat) j a (path.drop j) = Z ∧ Mem [] w [⟨g6, 95, 16, ndC a⟩, ⟨g5, 22, 16, ndC v⟩, ⟨g4, 22, 16, ndC nd0⟩, ⟨g3, 26, 562, X⟩, ⟨g2, 22, 16, ndC d⟩] [] wr) (fun i _ => n - (intOf i).toNat)
    case atStart => exact ⟨0, x0, by omega, rfl, by rw [List.drop_zero]; exact HZ.out, M0.out⟩
    case round =>
      clear M0
      obtain ⟨j, a, hj, rfl, hcl, hM⟩ := hrel
      by_cases hlt : j < n
      · have hjp : j < path.length := by have := HL.out; omega
        obtain ⟨go, oo, rfl, _, h5⟩ := NIn.row HR.out j hjp
        have C1 := Lib.hid (fun w' (hb : Below w.heap.size w w') => NIn.cell (HR.out.keep hb) j hjp)
        have hdr : path.drop j = path[j] :: path.drop (j + 1) := List.drop_eq_getElem_cons hjp
        rw [hdr] at hcl
        generalize path[j] = y at C1 h5 hcl
        have hcl2 : climbs (k : Nat) (j + 1) (stepN (k : Nat) j a y) (path.drop (j + 1)) = Z := hcl
        have r0 : (0 : Int) ≤ (j : Int) := Int.natCast_nonneg _
        have r1 : (j : Int) < (n : Int) := by omega
        have HW : IntKind.i64.wrap ((j : Int) + 1) = (j : Int) + 1 := IntWalk.i64_in _ ⟨by omega, by omega⟩
        have hkq : (0 : Int) ≤ (k : Int) / 2 ^ j := Int.ediv_nonneg k0 (Int.pow_nonneg (by decide))
        by_cases hbit : (k : Int) / 2 ^ j % 2 = 1
        · have HBT : (((k : Int) / 2 ^ j).tmod 2 == 1) = true := by rw [Int.tmod_eq_emod_of_nonneg hkq, hbit]; rfl
          have hst : stepN (k : Nat) j a y = joinN ((j : Int) + 1) y a := by unfold stepN pairN bitAt; rw [Int.toNat_natCast, decide_eq_true hbit]; rfl
          rw [hst] at hcl2
          have HJ := Lib.hid (fun w => rjoin_any ((j : Int) + 1) y a w)
          generalize joinN ((j : Int) + 1) y a = b at HJ hcl2
          replace hcl2 := Lib.hid hcl2
          clear hst hcl hdr h5 hjp hkq hbit
          go_wp2_with (first | ((with_reducible refine at_load ?_); first | refine slc hM ?_ (hv := HP.out) | refine slc hM ?_ (hv := H0.out)))
          refine wp_region_allTM hM 9 (fun w' => HeldM [⟨g6, 95, 16, ndC a⟩, ⟨g3, 26, 562, X⟩] w' ∧ ∀ ix u, (ndC y)[ix]? = some u → w'.cell? ⟨go, oo + j * 16 + ix, none⟩ = some u) (by kernel_rfl) ?_
          clear hM
          intro wd hM
          have hS := And.intro (HeldM.of (hM.subL (L' := [⟨g6, 95, 16, ndC a⟩, ⟨g3, 26, 562, X⟩]) (List.Sublist.cons_cons _ (List.Sublist.cons _ (List.Sublist.cons _ (List.Sublist.cons_cons _ (List.nil_sublist _))))))) (C1.out _ hM.below)
          refine wpAllT_takes [0, 1, 2, 4, 3, 5, 6, 7] (by kernel_rfl) (fun _ _ _ _ _ h => h) hS (by kernel_rfl) ?_
          simp only [pickOps, List.filterMap_cons, List.filterMap_nil, List.getElem?_cons_zero, List.getElem?_cons_succ]
          repeat ((with_reducible apply wpHeld_step); (· rfl); (· (intro wq hSw; first | (go_simp; rfl) | ((obtain ⟨⟨_, _, _, hM'⟩, hX'⟩ := hSw; first | exact yields_load (C := fun _ => True) (sqc hM' (hv := HP.out)) rfl | exact yields_load (C := fun _ => True) (qr hX' (hty := row_a16)) rfl | exact yields_load (C := fun _ => True) (sql hM' (hty := row_n)) rfl)))); intro K hK; go_simp; (with_reducible refine hK _ ?_); clear hK K)
          refine wpHeld_nil ?_
          refine wpAllT_one 8 rfl (by kernel_rfl) ?_
          go_wp2_with fail
          refine (HJ.out _).mono ?_
          rintro e w1 ⟨rfl, hb⟩
          replace hM := hM.step hb
          clear hb hS
          have hS := And.intro (HeldM.of (hM.subL (L' := [⟨g6, 95, 16, ndC a⟩, ⟨g3, 26, 562, X⟩]) (List.Sublist.cons_cons _ (List.Sublist.cons _ (List.Sublist.cons _ (List.Sublist.cons_cons _ (List.nil_sublist _))))))) (C1.out _ hM.below)
          go_wp2_with fail
          refine then_normal ⟨.inr hS, ?_⟩
          go_simp
          refine wpAllT_one 9 rfl (by kernel_rfl) ?_
          refine slw hM ?_ (hs := ndC_size _) (hty := row_n)
          clear hM hS
          intro wy hM
          refine wpList_then ⟨.inl (by kernel_rfl), wpAllT_drop (by kernel_rfl) ?_⟩
          refine wpAll_done (by kernel_rfl) ?_
          go_wp2_with fail
          exact ⟨⟨j + 1, b, by omega, by go_num, hcl2.out, hM⟩, by simp [intOf]; omega⟩
        · have HBT : (((k : Int) / 2 ^ j).tmod 2 == 1) = false := by rw [Int.tmod_eq_emod_of_nonneg hkq]; simpa using hbit
          have hst : stepN (k : Nat) j a y = joinN ((j : Int) + 1) a y := by unfold stepN pairN bitAt; rw [Int.toNat_natCast, decide_eq_false hbit]; rfl
          rw [hst] at hcl2
          have HJ := Lib.hid (fun w => rjoin_any ((j : Int) + 1) a y w)
          generalize joinN ((j : Int) + 1) a y = b at HJ hcl2
          replace hcl2 := Lib.hid hcl2
          clear hst hcl hdr h5 hjp hkq hbit
          go_wp2_with (first | ((with_reducible refine at_load ?_); first | refine slc hM ?_ (hv := HP.out) | refine slc hM ?_ (hv := H0.out)))
          refine wp_region_allTM hM 9 (fun w' => HeldM [⟨g6, 95, 16, ndC a⟩, ⟨g3, 26, 562, X⟩] w' ∧ ∀ ix u, (ndC y)[ix]? = some u → w'.cell? ⟨go, oo + j * 16 + ix, none⟩ = some u) (by kernel_rfl) ?_
          clear hM
          intro wd hM
          have hS := And.intro (HeldM.of (hM.subL (L' := [⟨g6, 95, 16, ndC a⟩, ⟨g3, 26, 562, X⟩]) (List.Sublist.cons_cons _ (List.Sublist.cons _ (List.Sublist.cons _ (List.Sublist.cons_cons _ (List.nil_sublist _))))))) (C1.out _ hM.below)
          refine wpAllT_takes [0, 1, 3, 5, 2, 4, 6, 7] (by kernel_rfl) (fun _ _ _ _ _ h => h) hS (by kernel_rfl) ?_
          simp only [pickOps, List.filterMap_cons, List.filterMap_nil, List.getElem?_cons_zero, List.getElem?_cons_succ]
          repeat ((with_reducible apply wpHeld_step); (· rfl); (· (intro wq hSw; first | (go_simp; rfl) | ((obtain ⟨⟨_, _, _, hM'⟩, hX'⟩ := hSw; first | exact yields_load (C := fun _ => True) (sqc hM' (hv := HP.out)) rfl | exact yields_load (C := fun _ => True) (qr hX' (hty := row_a16)) rfl | exact yields_load (C := fun _ => True) (sql hM' (hty := row_n)) rfl)))); intro K hK; go_simp; (with_reducible refine hK _ ?_); clear hK K)
          refine wpHeld_nil ?_
          refine wpAllT_one 8 rfl (by kernel_rfl) ?_
          go_wp2_with fail
          refine (HJ.out _).mono ?_
          rintro e w1 ⟨rfl, hb⟩
          replace hM := hM.step hb
          clear hb hS
          have hS := And.intro (HeldM.of (hM.subL (L' := [⟨g6, 95, 16, ndC a⟩, ⟨g3, 26, 562, X⟩]) (List.Sublist.cons_cons _ (List.Sublist.cons _ (List.Sublist.cons _ (List.Sublist.cons_cons _ (List.nil_sublist _))))))) (C1.out _ hM.below)
          go_wp2_with fail
          refine then_normal ⟨.inr hS, ?_⟩
          go_simp
          refine wpAllT_one 9 rfl (by kernel_rfl) ?_
          refine slw hM ?_ (hs := ndC_size _) (hty := row_n)
          clear hM hS
          intro wy hM
          refine wpList_then ⟨.inl (by kernel_rfl), wpAllT_drop (by kernel_rfl) ?_⟩
          refine wpAll_done (by kernel_rfl) ?_
          go_wp2_with fail
          exact ⟨⟨j + 1, b, by omega, by go_num, hcl2.out, hM⟩, by simp [intOf]; omega⟩
      · have haz : a = Z := by
          rw [List.drop_of_length_le (by have := HL.out; omega)] at hcl
          exact hcl
        have r1 : ¬ ((j : Int) < (n : Int)) := by omega
        subst haz
        clear hcl
        go_wp2_with (first | ((with_reducible refine at_load ?_); first | refine slc hM ?_ (hv := HP.out) | refine sll hM ?_ (hty := row_n)) | ((with_reducible refine at_store ?_); refine slw hM ?_ (hs := ndC_size _) (hty := row_a16); clear hM; intro wx hM))
        exact bodyPost_ret (results_mem_cell hM rfl (by rfl) (by repeat (first | exact List.Mem.head _ | apply List.Mem.tail)) row_a16) rfl ⟨rfl, hM.below⟩
  · refine slz hM ?_ (hz := zero_n)
    clear hM hS
    intro g6 wz hM
    have hS := HeldM.of (hM.subL (L' := [⟨g5, 22, 16, ndC v⟩, ⟨g3, 26, 562, X⟩]) (List.Sublist.cons _ (List.Sublist.cons_cons _ (List.Sublist.cons _ (List.Sublist.cons_cons _ (List.nil_sublist _))))))
    refine wpList_then ⟨hS, ?_⟩
    refine wpAllH_one 3 rfl (by kernel_rfl) ?_
    go_wp2_with fail
    refine (HLF.out _ _ _ (nd_reads hM (List.Mem.tail _ (List.Mem.head _)))).mono ?_
    rintro e w1 ⟨rfl, hb⟩
    replace hM := hM.step hb
    clear hb hS
    have hS := HeldM.of (hM.subL (L' := [⟨g5, 22, 16, ndC v⟩, ⟨g3, 26, 562, X⟩]) (List.Sublist.cons _ (List.Sublist.cons_cons _ (List.Sublist.cons _ (List.Sublist.cons_cons _ (List.nil_sublist _))))))
    go_wp2_with fail
    refine then_normal ⟨hS, ?_⟩
    refine wpAllH_one 5 rfl (by kernel_rfl) ?_
    refine slw hM ?_ (hs := ndC_size _) (hty := row_n)
    clear hM hS
    intro wy hM
    have hS := HeldM.of (hM.subL (L' := [⟨g5, 22, 16, ndC v⟩, ⟨g3, 26, 562, X⟩]) (List.Sublist.cons _ (List.Sublist.cons_cons _ (List.Sublist.cons _ (List.Sublist.cons_cons _ (List.nil_sublist _))))))
    refine wpList_then ⟨hS, ?_⟩
    refine wpAllH_done (by kernel_rfl) ?_
    clear hS
    go_wp2_with fail
    clear HV HLF
    obtain ⟨g6, hg6⟩ := hM.name1
    subst hg6
    have M0 := Lib.hid hM
    clear hM
    go_loopw [7] (fun i wr => ∃ (j : Nat) (a : Nd), j ≤ n ∧ i = .int .i64 (j : Nat) ∧ climbs (k : Nat) j a (path.drop j) = Z ∧ Mem [] w [⟨g6, 95, 16, ndC a⟩, ⟨g5, 22, 16, ndC v⟩, ⟨g4, 22, 16, ndC nd0⟩, ⟨g3, 26, 562, X⟩, ⟨g2, 22, 16, ndC d⟩] [] wr) (fun i _ => n - (intOf i).toNat)
    case atStart => exact ⟨0, x0, by omega, rfl, by rw [List.drop_zero]; exact HZ.out, M0.out⟩
    case round =>
      clear M0
      obtain ⟨j, a, hj, rfl, hcl, hM⟩ := hrel
      by_cases hlt : j < n
      · have hjp : j < path.length := by have := HL.out; omega
        obtain ⟨go, oo, rfl, _, h5⟩ := NIn.row HR.out j hjp
        have C1 := Lib.hid (fun w' (hb : Below w.heap.size w w') => NIn.cell (HR.out.keep hb) j hjp)
        have hdr : path.drop j = path[j] :: path.drop (j + 1) := List.drop_eq_getElem_cons hjp
        rw [hdr] at hcl
        generalize path[j] = y at C1 h5 hcl
        have hcl2 : climbs (k : Nat) (j + 1) (stepN (k : Nat) j a y) (path.drop (j + 1)) = Z := hcl
        have r0 : (0 : Int) ≤ (j : Int) := Int.natCast_nonneg _
        have r1 : (j : Int) < (n : Int) := by omega
        have HW : IntKind.i64.wrap ((j : Int) + 1) = (j : Int) + 1 := IntWalk.i64_in _ ⟨by omega, by omega⟩
        have hkq : (0 : Int) ≤ (k : Int) / 2 ^ j := Int.ediv_nonneg k0 (Int.pow_nonneg (by decide))
        by_cases hbit : (k : Int) / 2 ^ j % 2 = 1
        · have HBT : (((k : Int) / 2 ^ j).tmod 2 == 1) = true := by rw [Int.tmod_eq_emod_of_nonneg hkq, hbit]; rfl
          have hst : stepN (k : Nat) j a y = joinN ((j : Int) + 1) y a := by unfold stepN pairN bitAt; rw [Int.toNat_natCast, decide_eq_true hbit]; rfl
          rw [hst] at hcl2
          have HJ := Lib.hid (fun w => rjoin_any ((j : Int) + 1) y a w)
          generalize joinN ((j : Int) + 1) y a = b at HJ hcl2
          replace hcl2 := Lib.hid hcl2
          clear hst hcl hdr h5 hjp hkq hbit
          go_wp2_with (first | ((with_reducible refine at_load ?_); first | refine slc hM ?_ (hv := HP.out) | refine slc hM ?_ (hv := H0.out)))
          refine wp_region_allTM hM 9 (fun w' => HeldM [⟨g6, 95, 16, ndC a⟩, ⟨g3, 26, 562, X⟩] w' ∧ ∀ ix u, (ndC y)[ix]? = some u → w'.cell? ⟨go, oo + j * 16 + ix, none⟩ = some u) (by kernel_rfl) ?_
          clear hM
          intro wd hM
          have hS := And.intro (HeldM.of (hM.subL (L' := [⟨g6, 95, 16, ndC a⟩, ⟨g3, 26, 562, X⟩]) (List.Sublist.cons_cons _ (List.Sublist.cons _ (List.Sublist.cons _ (List.Sublist.cons_cons _ (List.nil_sublist _))))))) (C1.out _ hM.below)
          refine wpAllT_takes [0, 1, 2, 4, 3, 5, 6, 7] (by kernel_rfl) (fun _ _ _ _ _ h => h) hS (by kernel_rfl) ?_
          simp only [pickOps, List.filterMap_cons, List.filterMap_nil, List.getElem?_cons_zero, List.getElem?_cons_succ]
          repeat ((with_reducible apply wpHeld_step); (· rfl); (· (intro wq hSw; first | (go_simp; rfl) | ((obtain ⟨⟨_, _, _, hM'⟩, hX'⟩ := hSw; first | exact yields_load (C := fun _ => True) (sqc hM' (hv := HP.out)) rfl | exact yields_load (C := fun _ => True) (qr hX' (hty := row_a16)) rfl | exact yields_load (C := fun _ => True) (sql hM' (hty := row_n)) rfl)))); intro K hK; go_simp; (with_reducible refine hK _ ?_); clear hK K)
          refine wpHeld_nil ?_
          refine wpAllT_one 8 rfl (by kernel_rfl) ?_
          go_wp2_with fail
          refine (HJ.out _).mono ?_
          rintro e w1 ⟨rfl, hb⟩
          replace hM := hM.step hb
          clear hb hS
          have hS := And.intro (HeldM.of (hM.subL (L' := [⟨g6, 95, 16, ndC a⟩, ⟨g3, 26, 562, X⟩]) (List.Sublist.cons_cons _ (List.Sublist.cons _ (List.Sublist.cons _ (List.Sublist.cons_cons _ (List.nil_sublist _))))))) (C1.out _ hM.below)
          go_wp2_with fail
          refine then_normal ⟨.inr hS, ?_⟩
          go_simp
          refine wpAllT_one 9 rfl (by kernel_rfl) ?_
          refine slw hM ?_ (hs := ndC_size _) (hty := row_n)
          clear hM hS
          intro wy hM
          refine wpList_then ⟨.inl (by kernel_rfl), wpAllT_drop (by kernel_rfl) ?_⟩
          refine wpAll_done (by kernel_rfl) ?_
          go_wp2_with fail
          exact ⟨⟨j + 1, b, by omega, by go_num, hcl2.out, hM⟩, by simp [intOf]; omega⟩
        · have HBT : (((k : Int) / 2 ^ j).tmod 2 == 1) = false := by rw [Int.tmod_eq_emod_of_nonneg hkq]; simpa using hbit
          have hst : stepN (k : Nat) j a y = joinN ((j : Int) + 1) a y := by unfold stepN pairN bitAt; rw [Int.toNat_natCast, decide_eq_false hbit]; rfl
          rw [hst] at hcl2
          have HJ := Lib.hid (fun w => rjoin_any ((j : Int) + 1) a y w)
          generalize joinN ((j : Int) + 1) a y = b at HJ hcl2
          replace hcl2 := Lib.hid hcl2
          clear hst hcl hdr h5 hjp hkq hbit
          go_wp2_with (first | ((with_reducible refine at_load ?_); first | refine slc hM ?_ (hv := HP.out) | refine slc hM ?_ (hv := H0.out)))
          refine wp_region_allTM hM 9 (fun w' => HeldM [⟨g6, 95, 16, ndC a⟩, ⟨g3, 26, 562, X⟩] w' ∧ ∀ ix u, (ndC y)[ix]? = some u → w'.cell? ⟨go, oo + j * 16 + ix, none⟩ = some u) (by kernel_rfl) ?_
          clear hM
          intro wd hM
          have hS := And.intro (HeldM.of (hM.subL (L' := [⟨g6, 95, 16, ndC a⟩, ⟨g3, 26, 562, X⟩]) (List.Sublist.cons_cons _ (List.Sublist.cons _ (List.Sublist.cons _ (List.Sublist.cons_cons _ (List.nil_sublist _))))))) (C1.out _ hM.below)
          refine wpAllT_takes [0, 1, 3, 5, 2, 4, 6, 7] (by kernel_rfl) (fun _ _ _ _ _ h => h) hS (by kernel_rfl) ?_
          simp only [pickOps, List.filterMap_cons, List.filterMap_nil, List.getElem?_cons_zero, List.getElem?_cons_succ]
          repeat ((with_reducible apply wpHeld_step); (· rfl); (· (intro wq hSw; first | (go_simp; rfl) | ((obtain ⟨⟨_, _, _, hM'⟩, hX'⟩ := hSw; first | exact yields_load (C := fun _ => True) (sqc hM' (hv := HP.out)) rfl | exact yields_load (C := fun _ => True) (qr hX' (hty := row_a16)) rfl | exact yields_load (C := fun _ => True) (sql hM' (hty := row_n)) rfl)))); intro K hK; go_simp; (with_reducible refine hK _ ?_); clear hK K)
          refine wpHeld_nil ?_
          refine wpAllT_one 8 rfl (by kernel_rfl) ?_
          go_wp2_with fail
          refine (HJ.out _).mono ?_
          rintro e w1 ⟨rfl, hb⟩
          replace hM := hM.step hb
          clear hb hS
          have hS := And.intro (HeldM.of (hM.subL (L' := [⟨g6, 95, 16, ndC a⟩, ⟨g3, 26, 562, X⟩]) (List.Sublist.cons_cons _ (List.Sublist.cons _ (List.Sublist.cons _ (List.Sublist.cons_cons _ (List.nil_sublist _))))))) (C1.out _ hM.below)
          go_wp2_with fail
          refine then_normal ⟨.inr hS, ?_⟩
          go_simp
          refine wpAllT_one 9 rfl (by kernel_rfl) ?_
          refine slw hM ?_ (hs := ndC_size _) (hty := row_n)
          clear hM hS
          intro wy hM
          refine wpList_then ⟨.inl (by kernel_rfl), wpAllT_drop (by kernel_rfl) ?_⟩
          refine wpAll_done (by kernel_rfl) ?_
          go_wp2_with fail
          exact ⟨⟨j + 1, b, by omega, by go_num, hcl2.out, hM⟩, by simp [intOf]; omega⟩
      · have haz : a = Z := by
          rw [List.drop_of_length_le (by have := HL.out; omega)] at hcl
          exact hcl
        have r1 : ¬ ((j : Int) < (n : Int)) := by omega
        subst haz
        clear hcl
        go_wp2_with (first | ((with_reducible refine at_load ?_); first | refine slc hM ?_ (hv := HP.out) | refine sll hM ?_ (hty := row_n)) | ((with_reducible refine at_store ?_); refine slw hM ?_ (hs := ndC_size _) (hty := row_a16); clear hM; intro wx hM))
        exact bodyPost_ret (results_mem_cell hM rfl (by rfl) (by repeat (first | exact List.Mem.head _ | apply List.Mem.tail)) row_a16) rfl ⟨rfl, hM.below⟩
end Go.Proofs.YtdnnjgjaffkdfaaDoor
namespace Go.Proofs.YtdnnjgjaffkdfaaDoor
open Go Go.RowKit Go.Bul Go.Thg Go.Lin
set_option maxRecDepth 20000 in
set_option maxHeartbeats 4000000 in
theorem rver_any (h : Int) (r d : Nd) (leaf : Int) (ch : Ch) (A : Option Addr) (n c : Nat) (path : List Nd) (w : World) (hr : NIn w A n path) (hn : n ≤ 1000000) :
    Calls Tryd.prog 17 #[.int .i64 h, .agg (ndC r), .agg (ndC d), .agg (sigC leaf ch A n c)] w fun e w' => e = .returned (.int .i64 (verE h r d leaf ch n path)) ∧ Below w.heap.size w w' := by
  have hM := Mem.start [] w
  have HS := Lib.hid (sigC_size leaf ch A n c)
  have HP := Lib.hid (sigC_p leaf ch A n c)
  have HK := Lib.hid (fun w => rchk_any leaf ch A n c w hn)
  unfold verE
  by_cases h1 : 1 ≤ h
  · have r1 : decide (h < 1) = false := decide_eq_false (by omega)
    by_cases h8 : h ≤ 8
    · have r2 : decide (8 < h) = false := decide_eq_false (by omega)
      rw [if_neg (by unfold hE; rw [if_pos ⟨h1, h8⟩]; simp)]
      by_cases h2 : sgE leaf n = 0
      · rw [if_neg (by simp [h2])]
        rw [h2] at HK
        obtain ⟨k, rfl⟩ : ∃ k : Nat, leaf = (k : Int) := by
          unfold sgE at h2
          split at h2
          · rename_i h3
            exact ⟨leaf.toNat, by omega⟩
          · cases h2
        have HR := Lib.hid (fun w' (hb : Below w.heap.size w w') => rreach_any k ch A n c path d w' (hr.keep hb) h2)
        rw [Int.toNat_natCast]
        generalize rootS k d ch path = Z at HR ⊢
        generalize sigC (k : Nat) ch A n c = Y at HS HP HK HR ⊢
        have qe := eq_16 Z r
        clear hr hn h1 h2 h8
        by_cases hn : (n : Int) = h
        · subst hn
          have q1 : ((n : Int) != (n : Int)) = false := by simp
          by_cases hz : Z = r
          · rw [if_pos ⟨rfl, hz⟩]
            rw [decide_eq_true hz] at qe
            clear hz
            go_enter Tryd.func17, Tryd.ntmps17
            go_upto_region 6 with (first | ((with_reducible refine at_box ?_); first | (refine slb hM ?_ (hty := row_rsg) (hn := HS.out); clear hM; intro g7 w1 hM) | (refine slb hM ?_ (hty := row_a16) (hn := ndC_size _); clear hM; intro g5 w1 hM)) | ((with_reducible refine at_load ?_); refine sll hM ?_ (hty := row_rsg)) | ((with_reducible refine (HK.out _).mono ?_); rintro e w1 ⟨rfl, hb⟩; replace hM := hM.step hb; clear hb))
            refine Go.Bul.wp_region_class (Mem _ w _ _) (by kernel_rfl) (by kernel_rfl) hM.drew ?_
            repeat ((with_reducible refine wpQuiet_step (fun K hK => ?_)); (first | ((first | ((with_reducible refine quiet_some ?_ ?_); (· rfl)) | ((with_reducible refine Go.Thg.quiet_wanted ?_ ?_); (· rfl))); apply Exists.intro; refine ⟨fun w' hM' => ?_, ?_⟩; (· first | (go_simp; rfl) | exact sqc hM' (hv := HP.out) | exact sql hM' (hty := row_rsg) | exact sql hM' (hty := row_a16) (hL := List.Mem.tail _ (List.Mem.head _)) | exact sql hM' (hty := row_a16) (hL := List.Mem.tail _ (List.Mem.tail _ (List.Mem.head _))) | (go_simp; with_reducible refine at_calls ?_; exact quiet_mem_call hM' (HR.out _ hM'.below)) | exact qc hM' | exact ql hM' | exact qp hM')) | ((with_reducible refine Go.Thg.quiet_unwanted ?_ ?_); (· rfl))); go_simp; (with_reducible refine hK _ ?_); clear hK K)
            refine wpQuiet_nil ?_
            intro wx hM
            go_wp2_with fail
            go_ret
            exact ⟨rfl, hM.below⟩
          · rw [if_neg (by simp [hz])]
            rw [decide_eq_false hz] at qe
            clear hz
            go_enter Tryd.func17, Tryd.ntmps17
            go_upto_region 6 with (first | ((with_reducible refine at_box ?_); first | (refine slb hM ?_ (hty := row_rsg) (hn := HS.out); clear hM; intro g7 w1 hM) | (refine slb hM ?_ (hty := row_a16) (hn := ndC_size _); clear hM; intro g5 w1 hM)) | ((with_reducible refine at_load ?_); refine sll hM ?_ (hty := row_rsg)) | ((with_reducible refine (HK.out _).mono ?_); rintro e w1 ⟨rfl, hb⟩; replace hM := hM.step hb; clear hb))
            refine Go.Bul.wp_region_class (Mem _ w _ _) (by kernel_rfl) (by kernel_rfl) hM.drew ?_
            repeat ((with_reducible refine wpQuiet_step (fun K hK => ?_)); (first | ((first | ((with_reducible refine quiet_some ?_ ?_); (· rfl)) | ((with_reducible refine Go.Thg.quiet_wanted ?_ ?_); (· rfl))); apply Exists.intro; refine ⟨fun w' hM' => ?_, ?_⟩; (· first | (go_simp; rfl) | exact sqc hM' (hv := HP.out) | exact sql hM' (hty := row_rsg) | exact sql hM' (hty := row_a16) (hL := List.Mem.tail _ (List.Mem.head _)) | exact sql hM' (hty := row_a16) (hL := List.Mem.tail _ (List.Mem.tail _ (List.Mem.head _))) | (go_simp; with_reducible refine at_calls ?_; exact quiet_mem_call hM' (HR.out _ hM'.below)) | exact qc hM' | exact ql hM' | exact qp hM')) | ((with_reducible refine Go.Thg.quiet_unwanted ?_ ?_); (· rfl))); go_simp; (with_reducible refine hK _ ?_); clear hK K)
            refine wpQuiet_nil ?_
            intro wx hM
            go_wp2_with fail
            go_ret
            exact ⟨rfl, hM.below⟩
        · rw [if_neg (by simp [hn])]
          have q1 : ((n : Int) != h) = true := by simpa using hn
          clear hn qe
          go_enter Tryd.func17, Tryd.ntmps17
          go_upto_region 6 with (first | ((with_reducible refine at_box ?_); first | (refine slb hM ?_ (hty := row_rsg) (hn := HS.out); clear hM; intro g7 w1 hM) | (refine slb hM ?_ (hty := row_a16) (hn := ndC_size _); clear hM; intro g5 w1 hM)) | ((with_reducible refine at_load ?_); refine sll hM ?_ (hty := row_rsg)) | ((with_reducible refine (HK.out _).mono ?_); rintro e w1 ⟨rfl, hb⟩; replace hM := hM.step hb; clear hb))
          refine Go.Bul.wp_region_class (Mem _ w _ _) (by kernel_rfl) (by kernel_rfl) hM.drew ?_
          repeat ((with_reducible refine wpQuiet_step (fun K hK => ?_)); (first | ((first | ((with_reducible refine quiet_some ?_ ?_); (· rfl)) | ((with_reducible refine Go.Thg.quiet_wanted ?_ ?_); (· rfl))); apply Exists.intro; refine ⟨fun w' hM' => ?_, ?_⟩; (· first | (go_simp; rfl) | exact sqc hM' (hv := HP.out) | exact sql hM' (hty := row_rsg) | exact sql hM' (hty := row_a16) (hL := List.Mem.tail _ (List.Mem.head _)) | exact sql hM' (hty := row_a16) (hL := List.Mem.tail _ (List.Mem.tail _ (List.Mem.head _))) | (go_simp; with_reducible refine at_calls ?_; exact quiet_mem_call hM' (HR.out _ hM'.below)) | exact qc hM' | exact ql hM' | exact qp hM')) | ((with_reducible refine Go.Thg.quiet_unwanted ?_ ?_); (· rfl))); go_simp; (with_reducible refine hK _ ?_); clear hK K)
          refine wpQuiet_nil ?_
          intro wx hM
          go_wp2_with fail
          go_ret
          exact ⟨rfl, hM.below⟩
      · rw [if_pos (by simpa using h2)]
        have q1 : (sgE leaf n != 0) = true := by simpa using h2
        generalize sgE leaf n = e1 at q1 HK ⊢
        generalize sigC leaf ch A n c = Y at HS HP HK ⊢
        clear hr h1 h2 h8 hn
        go_enter Tryd.func17, Tryd.ntmps17
        go_wp2_with (first | ((with_reducible refine at_box ?_); first | (refine slb hM ?_ (hty := row_rsg) (hn := HS.out); clear hM; intro g7 w1 hM) | (refine slb hM ?_ (hty := row_a16) (hn := ndC_size _); clear hM; intro g5 w1 hM)) | ((with_reducible refine at_load ?_); refine sll hM ?_ (hty := row_rsg)) | ((with_reducible refine (HK.out _).mono ?_); rintro e w1 ⟨rfl, hb⟩; replace hM := hM.step hb; clear hb))
        go_ret
        exact ⟨rfl, hM.below⟩
    · rw [if_pos (by unfold hE; rw [if_neg (by omega)]; decide), show hE h = 2 by unfold hE; rw [if_neg (by omega)]]
      have r2 : decide (8 < h) = true := decide_eq_true (by omega)
      generalize sigC leaf ch A n c = Y at HS HP HK ⊢
      clear hr h1 h8 hn
      go_enter Tryd.func17, Tryd.ntmps17
      go_wp2_with (first | ((with_reducible refine at_box ?_); first | (refine slb hM ?_ (hty := row_rsg) (hn := HS.out); clear hM; intro g7 w1 hM) | (refine slb hM ?_ (hty := row_a16) (hn := ndC_size _); clear hM; intro g5 w1 hM)) | ((with_reducible refine at_load ?_); refine sll hM ?_ (hty := row_rsg)) | ((with_reducible refine (HK.out _).mono ?_); rintro e w1 ⟨rfl, hb⟩; replace hM := hM.step hb; clear hb))
      go_ret
      exact ⟨rfl, hM.below⟩
  · rw [if_pos (by unfold hE; rw [if_neg (by omega)]; decide), show hE h = 2 by unfold hE; rw [if_neg (by omega)]]
    have r1 : decide (h < 1) = true := decide_eq_true (by omega)
    generalize sigC leaf ch A n c = Y at HS HP HK ⊢
    clear hr h1 hn
    go_enter Tryd.func17, Tryd.ntmps17
    go_wp2_with (first | ((with_reducible refine at_box ?_); first | (refine slb hM ?_ (hty := row_rsg) (hn := HS.out); clear hM; intro g7 w1 hM) | (refine slb hM ?_ (hty := row_a16) (hn := ndC_size _); clear hM; intro g5 w1 hM)) | ((with_reducible refine at_load ?_); refine sll hM ?_ (hty := row_rsg)) | ((with_reducible refine (HK.out _).mono ?_); rintro e w1 ⟨rfl, hb⟩; replace hM := hM.step hb; clear hb))
    go_ret
    exact ⟨rfl, hM.below⟩
end Go.Proofs.YtdnnjgjaffkdfaaDoor
