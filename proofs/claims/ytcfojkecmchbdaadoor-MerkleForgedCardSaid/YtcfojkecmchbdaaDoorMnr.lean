/- MerkleForged: the walk. MerkleForged's arguments. -/
import Derived.Test.YtcfojkecmchbdaaDoorMda
import Derived.Test.YtcfojkecmchbdaaDoorMnp
import Derived.Test.YtcfojkecmchbdaaDoorMnn
namespace Go.Proofs.YtcfojkecmchbdaaDoor
open Go Go.RowKit Go.Bul Go.Thg Go.Lin
set_option maxRecDepth 20000 in
set_option maxHeartbeats 8000000 in
theorem mforged_any (A : Option Addr) (n c : Nat) (leaves : List Nd) (idx : Int) (lf : Nd) (B : Option Addr) (m d : Nat) (path : List Nd) (kp : Bool) (w : World) (hr : NIn w A n leaves) (hp : NIn w B m path) (hn : n ≤ 9223372036854775807) (hm : m ≤ 9223372036854775807) (hT : Tab w) :
    Calls Tryd.prog 8 #[.slice A n c, .agg (claimC idx lf B m d), .bool kp] w fun e w' => e = .returned (.bool true) ∧ Below w.heap.size w w' := by
  have hM := Mem.start [] w
  have HK := Lib.hid (fun w' (hb : Below w.heap.size w w') => known_any w' (hT.keep hb))
  have HX0 := Lib.hid (cl_0 idx lf B m d)
  have HX17 := Lib.hid (cl_17 idx lf B m d)
  have HXN := Lib.hid (cl_nd idx lf B m d)
  have HXS := Lib.hid (cl_size idx lf B m d)
  generalize claimC idx lf B m d = X at HX0 HX17 HXN HXS ⊢
  by_cases h64 : 64 < n
  · have hc1 : decide ((64 : Int) < (n : Int)) = true := decide_eq_true (by omega)
    have hc2 : decide (64 < n) = true := decide_eq_true h64
    clear hr hp hn hm hT h64
    go_enter Tryd.func8, Tryd.ntmps8
    go_upto_region 1 with (first | (refine lb hM ?_ (cs := X) (ty := 48) (hn := HXS.out) (hty := row_claim); clear hM; intro g4 w3 hM) | ((first | with_reducible refine at_load ?_ | ((with_reducible refine at_load_g ?_ ?_); (· rfl))); first | refine ll hM ?_ | refine lc hM ?_ | refine lp hM ?_) | ((with_reducible refine at_store ?_); first | (refine lw hM ?_; clear hM; intro wx hM) | (refine ls hM ?_; clear hM; intro wx hM) | (refine lt hM ?_; clear hM; intro wx hM)) | ((with_reducible refine at_alloc ?_); refine lz hM ?_; clear hM; intro gx wx hM) | ((with_reducible refine at_box ?_); refine lb hM ?_; clear hM; intro gx wx hM))
    obtain ⟨g4', hg4⟩ := hM.name1
    subst hg4
    refine wp_region_allHM hM (HeldM [⟨g4', 48, 18, X⟩]) (by kernel_rfl) ?_
    clear hM
    intro wd hM
    have hS := HeldM.of (hM.subL (L' := [_]) (List.Sublist.refl _))
    refine wpAllH_takes [0, 1, 2, 3, 4, 5] (by kernel_rfl) (fun _ _ _ _ _ h => h) hS (by kernel_rfl) ?_
    simp only [pickOps, List.filterMap_cons, List.filterMap_nil, List.getElem?_cons_zero, List.getElem?_cons_succ]
    repeat ((with_reducible apply wpHeld_step); (· rfl); (· (intro w hSw; first | (go_simp; rfl) | ((obtain ⟨_, _, _, hM'⟩ := hSw; first | exact yields_load (C := fun _ => True) (qp hM' (hX := HXN.out)) rfl | exact yields_load (C := fun _ => True) (qc hM' (hv := HX0.out)) rfl | exact yields_load (C := fun _ => True) (qc hM' (hv := HX17.out)) rfl)))); intro K hK; go_simp; (with_reducible refine hK _ ?_); clear hK K)
    refine wpHeld_nil ?_
    refine wpAllH_one 6 rfl (by kernel_rfl) ?_
    refine lz hM ?_
    clear hM hS
    intro g8 wz hM
    have hS := HeldM.of (hM.subL (L' := [⟨g4', 48, 18, X⟩]) (List.sublist_cons_self _ _))
    refine wpList_then ⟨hS, ?_⟩
    refine wpAllH_takes [7] (by kernel_rfl) (fun _ _ _ _ _ h => h) hS (by kernel_rfl) ?_
    simp only [pickOps, List.filterMap_cons, List.filterMap_nil, List.getElem?_cons_zero, List.getElem?_cons_succ]
    repeat ((with_reducible apply wpHeld_step); (· rfl); (· (intro w hSw; first | (go_simp; rfl) | (fail))); intro K hK; go_simp; (with_reducible refine hK _ ?_); clear hK K)
    refine wpHeld_nil ?_
    refine wpAllH_one 8 rfl (by kernel_rfl) ?_
    refine lw hM ?_
    clear hM hS
    intro wy hM
    have hS := HeldM.of (hM.subL (L' := [⟨g4', 48, 18, X⟩]) (List.sublist_cons_self _ _))
    refine wpList_then ⟨hS, ?_⟩
    refine wpAllH_takes [9] (by kernel_rfl) (fun _ _ _ _ _ h => h) hS (by kernel_rfl) ?_
    simp only [pickOps, List.filterMap_cons, List.filterMap_nil, List.getElem?_cons_zero, List.getElem?_cons_succ]
    repeat ((with_reducible apply wpHeld_step); (· rfl); (· (intro w hSw; first | (go_simp; rfl) | (fail))); intro K hK; go_simp; (with_reducible refine hK _ ?_); clear hK K)
    refine wpHeld_nil ?_
    refine wpAllH_done (by kernel_rfl) ?_
    clear hS
    go_wp2_with (first | ((with_reducible refine (HK.out _ hM.below).mono ?_); rintro e w1 ⟨rfl, hb⟩; replace hM := hM.step hb; clear hb) | ((first | with_reducible refine at_load ?_ | ((with_reducible refine at_load_g ?_ ?_); (· rfl))); first | refine ll hM ?_ | refine lc hM ?_ | refine lp hM ?_) | ((with_reducible refine at_store ?_); first | (refine lw hM ?_; clear hM; intro wx hM) | (refine ls hM ?_; clear hM; intro wx hM) | (refine lt hM ?_; clear hM; intro wx hM)) | ((with_reducible refine at_alloc ?_); refine lz hM ?_; clear hM; intro gx wx hM) | ((with_reducible refine at_box ?_); refine lb hM ?_; clear hM; intro gx wx hM))
    go_ret
    exact ⟨rfl, hM.below⟩
  · have hc1 : decide ((64 : Int) < (n : Int)) = false := decide_eq_false (by omega)
    have hc2 : decide (64 < n) = false := decide_eq_false h64
    by_cases h12 : 12 < m
    · have hc3 : decide ((12 : Int) < (m : Int)) = true := decide_eq_true (by omega)
      have hc4 : decide (12 < m) = true := decide_eq_true h12
      clear hr hp hn hm hT h64 h12
      go_enter Tryd.func8, Tryd.ntmps8
      go_upto_region 1 with (first | (refine lb hM ?_ (cs := X) (ty := 48) (hn := HXS.out) (hty := row_claim); clear hM; intro g4 w3 hM) | ((first | with_reducible refine at_load ?_ | ((with_reducible refine at_load_g ?_ ?_); (· rfl))); first | refine ll hM ?_ | refine lc hM ?_ | refine lp hM ?_) | ((with_reducible refine at_store ?_); first | (refine lw hM ?_; clear hM; intro wx hM) | (refine ls hM ?_; clear hM; intro wx hM) | (refine lt hM ?_; clear hM; intro wx hM)) | ((with_reducible refine at_alloc ?_); refine lz hM ?_; clear hM; intro gx wx hM) | ((with_reducible refine at_box ?_); refine lb hM ?_; clear hM; intro gx wx hM))
      obtain ⟨g4', hg4⟩ := hM.name1
      subst hg4
      refine wp_region_allHM hM (HeldM [⟨g4', 48, 18, X⟩]) (by kernel_rfl) ?_
      clear hM
      intro wd hM
      have hS := HeldM.of (hM.subL (L' := [_]) (List.Sublist.refl _))
      refine wpAllH_takes [0, 1, 2, 3, 4, 5] (by kernel_rfl) (fun _ _ _ _ _ h => h) hS (by kernel_rfl) ?_
      simp only [pickOps, List.filterMap_cons, List.filterMap_nil, List.getElem?_cons_zero, List.getElem?_cons_succ]
      repeat ((with_reducible apply wpHeld_step); (· rfl); (· (intro w hSw; first | (go_simp; rfl) | ((obtain ⟨_, _, _, hM'⟩ := hSw; first | exact yields_load (C := fun _ => True) (qp hM' (hX := HXN.out)) rfl | exact yields_load (C := fun _ => True) (qc hM' (hv := HX0.out)) rfl | exact yields_load (C := fun _ => True) (qc hM' (hv := HX17.out)) rfl)))); intro K hK; go_simp; (with_reducible refine hK _ ?_); clear hK K)
      refine wpHeld_nil ?_
      refine wpAllH_one 6 rfl (by kernel_rfl) ?_
      refine lz hM ?_
      clear hM hS
      intro g8 wz hM
      have hS := HeldM.of (hM.subL (L' := [⟨g4', 48, 18, X⟩]) (List.sublist_cons_self _ _))
      refine wpList_then ⟨hS, ?_⟩
      refine wpAllH_takes [7] (by kernel_rfl) (fun _ _ _ _ _ h => h) hS (by kernel_rfl) ?_
      simp only [pickOps, List.filterMap_cons, List.filterMap_nil, List.getElem?_cons_zero, List.getElem?_cons_succ]
      repeat ((with_reducible apply wpHeld_step); (· rfl); (· (intro w hSw; first | (go_simp; rfl) | (fail))); intro K hK; go_simp; (with_reducible refine hK _ ?_); clear hK K)
      refine wpHeld_nil ?_
      refine wpAllH_one 8 rfl (by kernel_rfl) ?_
      refine lw hM ?_
      clear hM hS
      intro wy hM
      have hS := HeldM.of (hM.subL (L' := [⟨g4', 48, 18, X⟩]) (List.sublist_cons_self _ _))
      refine wpList_then ⟨hS, ?_⟩
      refine wpAllH_takes [9] (by kernel_rfl) (fun _ _ _ _ _ h => h) hS (by kernel_rfl) ?_
      simp only [pickOps, List.filterMap_cons, List.filterMap_nil, List.getElem?_cons_zero, List.getElem?_cons_succ]
      repeat ((with_reducible apply wpHeld_step); (· rfl); (· (intro w hSw; first | (go_simp; rfl) | (fail))); intro K hK; go_simp; (with_reducible refine hK _ ?_); clear hK K)
      refine wpHeld_nil ?_
      refine wpAllH_done (by kernel_rfl) ?_
      clear hS
      go_wp2_with (first | ((with_reducible refine (HK.out _ hM.below).mono ?_); rintro e w1 ⟨rfl, hb⟩; replace hM := hM.step hb; clear hb) | ((first | with_reducible refine at_load ?_ | ((with_reducible refine at_load_g ?_ ?_); (· rfl))); first | refine ll hM ?_ | refine lc hM ?_ | refine lp hM ?_) | ((with_reducible refine at_store ?_); first | (refine lw hM ?_; clear hM; intro wx hM) | (refine ls hM ?_; clear hM; intro wx hM) | (refine lt hM ?_; clear hM; intro wx hM)) | ((with_reducible refine at_alloc ?_); refine lz hM ?_; clear hM; intro gx wx hM) | ((with_reducible refine at_box ?_); refine lb hM ?_; clear hM; intro gx wx hM))
      go_ret
      exact ⟨rfl, hM.below⟩
    · have hc3 : decide ((12 : Int) < (m : Int)) = false := decide_eq_false (by omega)
      have hc4 : decide (12 < m) = false := decide_eq_false h12
      have hl := hr.len
      have hpl := hp.len
      have HO := Lib.hid (fun w' (hb : Below w.heap.size w w') => own_any A n c leaves w' (hr.keep hb) (by omega))
      have HO2 := Lib.hid (fun w' (hb : Below w.heap.size w w') => own_any B m d path w' (hp.keep hb) (by omega))
      have HRT := Lib.hid (fun A' c' w' (h : NIn w' A' n leaves) (hb : Below w.heap.size w w') => root_any A' n c' leaves w' h (by omega) (hT.keep hb))
      have HPA := Lib.hid (fun A' c' w' (h : NIn w' A' n leaves) (hb : Below w.heap.size w w') => path_any A' n c' leaves idx w' h (by omega) (hT.keep hb))
      by_cases hce : chkE n = 0
      · by_cases hpf : (pathF leaves idx).2 = 0
        · rw [hce] at HRT
          obtain ⟨h, hh, he, hlog⟩ := chkE_yes hce
          have hln : leaves.length = 2 ^ h := by omega
          have hidx : 0 ≤ idx ∧ idx < (n : Int) := by
            unfold pathF at hpf
            rw [if_neg (by rw [← hl, hce]; decide)] at hpf
            split at hpf
            · cases hpf
            · omega
          obtain ⟨k, rfl⟩ : ∃ k : Nat, idx = (k : Int) := ⟨idx.toNat, by omega⟩
          have hkn : k < n := by omega
          have hpe : pathF leaves (k : Int) = (sibsF leaves k h, 0) := by
            unfold pathF
            rw [if_neg (by rw [← hl, hce]; decide), if_neg (by omega), ← hl, hlog]
            simp
          rw [hpe] at HPA
          have hsl := sibsF_length leaves k h
          simp only [hsl] at HPA
          have hroot : rootN leaves = rootH leaves h := by unfold rootN; rw [if_pos (by rw [← hl]; exact hce), ← hl, hlog]
          have hlead := path_leads leaves h k hln hh (by omega)
          rw [← hroot] at hlead
          have HKL := Lib.hid (show k < leaves.length by omega)
          have HLX := Lib.hid (leaf_get leaves k HKL.out)
          have HCC := Lib.hid (fun q (hq : q.length = h) (hv : verF (rootN leaves) lf (k : Int) q = true) => by
            obtain ⟨lev, u, v, ob, e1, e2, e3⟩ := coll_says' (hsl.trans hq.symm) hlead hv
            rw [hsl] at e3
            have hc := fun A' c' B' d' w' (h1 : NIn w' A' h (sibsF leaves k h)) (h2 : NIn w' B' h q) (hb : Below w.heap.size w w') => coll_any (k : Int) (nodeN leaves 0 k) A' h c' (sibsF leaves k h) lf B' h d' q w' h1 h2 (by omega) (by omega) (hT.keep hb)
            rw [e1, e2] at hc
            exact (⟨lev, u, v, ob, hc, e3⟩ : ∃ lev u v ob, (∀ A' c' B' d' w', NIn w' A' h (sibsF leaves k h) → NIn w' B' h q → Below w.heap.size w w' → Calls Tryd.prog 25 #[.int .i64 (k : Int), .agg (ndC (nodeN leaves 0 k)), .slice A' h c', .agg (ndC lf), .slice B' h d'] w' fun e w'' => e = .returned (.tuple #[.agg (twoC lev u v), .bool ob]) ∧ Below w'.heap.size w' w'') ∧
              ((ob = false ∧ chgB (!decide (lf = nodeN leaves 0 k)) q (sibsF leaves k h) h = false ∧ lev = 0 ∧ u = (nd0, nd0) ∧ v = (nd0, nd0)) ∨ (ob = true ∧ chgB (!decide (lf = nodeN leaves 0 k)) q (sibsF leaves k h) h = true ∧ u ≠ v ∧ joinN lev v.1 v.2 = joinN lev u.1 u.2))))
          have HVA := Lib.hid (fun Q qc qn q w' (hin : NIn w' Q qn q) (h2 : qn ≤ 1000000) (hb : Below w.heap.size w w') => verify_any (rootN leaves) lf (k : Int) Q qn qc q w' hin h2 (hT.keep hb))
          have HT := Lib.hid (fun w' (hb : Below w.heap.size w w') => hT.keep hb)
          have HSL := Lib.hid hsl
          have hq1 := eq_nd lf (nodeN leaves 0 k)
          obtain ⟨dd, hdd⟩ : ∃ d, decide (lf = nodeN leaves 0 k) = d := ⟨_, rfl⟩
          simp only [hdd] at hq1 HCC
          generalize nodeN leaves 0 k = x at HLX HCC hq1
          generalize sibsF leaves k h = SB at HCC HPA HSL
          generalize rootN leaves = Z at HRT HCC HVA
          have n0 : (n : Int) ≤ 64 := by omega
          have n1 : (m : Int) ≤ 12 := by omega
          have n2 : (h : Int) ≤ 10 := by omega
          have n3 : (0 : Int) ≤ (h : Int) := Int.natCast_nonneg _
          have k0 : (0 : Int) ≤ (k : Int) := Int.natCast_nonneg _
          have k1 : (k : Int) < (n : Int) := by omega
          have HPL := Lib.hid hpl
          clear hr hp hn hm hT h64 h12 hl hce hpf hh he hlog hln hidx hkn hpe hsl hroot hlead hdd hpl
          go_enter Tryd.func8, Tryd.ntmps8
          go_upto_region 1 with (first | (refine lb hM ?_ (cs := X) (ty := 48) (hn := HXS.out) (hty := row_claim); clear hM; intro g4 w3 hM) | ((first | with_reducible refine at_load ?_ | ((with_reducible refine at_load_g ?_ ?_); (· rfl))); first | refine ll hM ?_ | refine lc hM ?_ | refine lp hM ?_) | ((with_reducible refine at_store ?_); first | (refine lw hM ?_; clear hM; intro wx hM) | (refine ls hM ?_; clear hM; intro wx hM) | (refine lt hM ?_; clear hM; intro wx hM)) | ((with_reducible refine at_alloc ?_); refine lz hM ?_; clear hM; intro gx wx hM) | ((with_reducible refine at_box ?_); refine lb hM ?_; clear hM; intro gx wx hM))
          obtain ⟨g4', hg4⟩ := hM.name1
          subst hg4
          refine wp_region_allHM hM (HeldM [⟨g4', 48, 18, X⟩]) (by kernel_rfl) ?_
          clear hM
          intro wd hM
          have hS := HeldM.of (hM.subL (L' := [_]) (List.Sublist.refl _))
          refine wpAllH_takes [0, 1, 2, 3, 4, 5] (by kernel_rfl) (fun _ _ _ _ _ h => h) hS (by kernel_rfl) ?_
          simp only [pickOps, List.filterMap_cons, List.filterMap_nil, List.getElem?_cons_zero, List.getElem?_cons_succ]
          repeat ((with_reducible apply wpHeld_step); (· rfl); (· (intro w hSw; first | (go_simp; rfl) | ((obtain ⟨_, _, _, hM'⟩ := hSw; first | exact yields_load (C := fun _ => True) (qp hM' (hX := HXN.out)) rfl | exact yields_load (C := fun _ => True) (qc hM' (hv := HX0.out)) rfl | exact yields_load (C := fun _ => True) (qc hM' (hv := HX17.out)) rfl)))); intro K hK; go_simp; (with_reducible refine hK _ ?_); clear hK K)
          refine wpHeld_nil ?_
          refine wpAllH_one 6 rfl (by kernel_rfl) ?_
          refine lz hM ?_
          clear hM hS
          intro g8 wz hM
          have hS := HeldM.of (hM.subL (L' := [⟨g4', 48, 18, X⟩]) (List.sublist_cons_self _ _))
          refine wpList_then ⟨hS, ?_⟩
          refine wpAllH_takes [7] (by kernel_rfl) (fun _ _ _ _ _ h => h) hS (by kernel_rfl) ?_
          simp only [pickOps, List.filterMap_cons, List.filterMap_nil, List.getElem?_cons_zero, List.getElem?_cons_succ]
          repeat ((with_reducible apply wpHeld_step); (· rfl); (· (intro w hSw; first | (go_simp; rfl) | (fail))); intro K hK; go_simp; (with_reducible refine hK _ ?_); clear hK K)
          refine wpHeld_nil ?_
          refine wpAllH_one 8 rfl (by kernel_rfl) ?_
          refine lw hM ?_
          clear hM hS
          intro wy hM
          have hS := HeldM.of (hM.subL (L' := [⟨g4', 48, 18, X⟩]) (List.sublist_cons_self _ _))
          refine wpList_then ⟨hS, ?_⟩
          refine wpAllH_takes [9] (by kernel_rfl) (fun _ _ _ _ _ h => h) hS (by kernel_rfl) ?_
          simp only [pickOps, List.filterMap_cons, List.filterMap_nil, List.getElem?_cons_zero, List.getElem?_cons_succ]
          repeat ((with_reducible apply wpHeld_step); (· rfl); (· (intro w hSw; first | (go_simp; rfl) | (fail))); intro K hK; go_simp; (with_reducible refine hK _ ?_); clear hK K)
          refine wpHeld_nil ?_
          refine wpAllH_done (by kernel_rfl) ?_
          clear hS
          go_upto_region 10 with (first | ((with_reducible refine (HK.out _ hM.below).mono ?_); rintro e w1 ⟨rfl, hb⟩; replace hM := hM.step hb; clear hb) | ((with_reducible refine (HO.out _ hM.below).mono ?_); rintro e w1 ⟨A1, c1, rfl, hb⟩; replace hM := hM.newThing hb; clear hb) | ((with_reducible refine (HRT.out _ _ _ (ndT_in (hM.thing _ (List.Mem.head _))) hM.below).mono ?_); rintro e w1 ⟨rfl, hb⟩; replace hM := hM.step hb; clear hb) | ((with_reducible refine (HPA.out _ _ _ (ndT_in (hM.thing _ (List.Mem.head _))) hM.below).mono ?_); rintro e w1 ⟨A2, c2, rfl, hb⟩; replace hM := hM.newThing hb; clear hb) | ((with_reducible refine (HO2.out _ hM.below).mono ?_); rintro e w1 ⟨A3, c3, rfl, hb⟩; replace hM := hM.newThing hb; clear hb) | ((first | with_reducible refine at_load ?_ | ((with_reducible refine at_load_g ?_ ?_); (· rfl))); first | refine ll hM ?_ | refine lc hM ?_ | refine lp hM ?_) | ((with_reducible refine at_store ?_); first | (refine lw hM ?_; clear hM; intro wx hM) | (refine ls hM ?_; clear hM; intro wx hM) | (refine lt hM ?_; clear hM; intro wx hM)) | ((with_reducible refine at_alloc ?_); refine lz hM ?_; clear hM; intro gx wx hM) | ((with_reducible refine at_box ?_); refine lb hM ?_; clear hM; intro gx wx hM))
          obtain ⟨g11, hg11⟩ := hM.name1
          subst hg11
          cases kp
          · by_cases hmh : h = m
            · subst hmh
              have HQL := Lib.hid HPL.out.symm
              obtain ⟨vb, hvb⟩ : ∃ b, verF Z lf (k : Int) path = b := ⟨_, rfl⟩
              have HV := Lib.hid (fun Q c' w' hq hb => HVA.out Q c' h path w' hq (by omega) hb)
              rw [hvb] at HV
              have q0 : ((h : Int) != (h : Int)) = false := by simp
              cases vb
              · go_wp2_with (first | ((with_reducible refine (HV.out _ _ _ (ndT_in (hM.thing _ (List.Mem.head _))) hM.below).mono ?_); rintro e w1 ⟨rfl, hb⟩; replace hM := hM.step hb; clear hb) | ((first | with_reducible refine at_load ?_ | ((with_reducible refine at_load_g ?_ ?_); (· rfl))); first | refine ll hM ?_ | refine lc hM ?_ | refine lp hM ?_) | ((with_reducible refine at_store ?_); first | (refine lw hM ?_; clear hM; intro wx hM) | (refine ls hM ?_; clear hM; intro wx hM) | (refine lt hM ?_; clear hM; intro wx hM)) | ((with_reducible refine at_alloc ?_); refine lz hM ?_; clear hM; intro gx wx hM) | ((with_reducible refine at_box ?_); refine lb hM ?_; clear hM; intro gx wx hM))
                go_ret
                exact ⟨rfl, hM.below⟩
              · obtain ⟨lev, u, v, ob, hco, hcase⟩ := HCC.out path HQL.out hvb
                have HC := Lib.hid hco
                have HCASE := Lib.hid hcase
                clear hco hcase hvb
                go_upto_region 14 with (first | ((with_reducible refine (HV.out _ _ _ (ndT_in (hM.thing _ (List.Mem.head _))) hM.below).mono ?_); rintro e w1 ⟨rfl, hb⟩; replace hM := hM.step hb; clear hb) | ((first | with_reducible refine at_load ?_ | ((with_reducible refine at_load_g ?_ ?_); (· rfl))); first | refine ll hM ?_ | refine lc hM ?_ | refine lp hM ?_) | ((with_reducible refine at_store ?_); first | (refine lw hM ?_; clear hM; intro wx hM) | (refine ls hM ?_; clear hM; intro wx hM) | (refine lt hM ?_; clear hM; intro wx hM)) | ((with_reducible refine at_alloc ?_); refine lz hM ?_; clear hM; intro gx wx hM) | ((with_reducible refine at_box ?_); refine lb hM ?_; clear hM; intro gx wx hM))
                obtain ⟨go, oo, rfl, _, h5⟩ := (ndT_in (hM.thing _ (List.Mem.tail _ (List.Mem.tail _ (List.Mem.head _))))).row k HKL.out
                have HX := Lib.hid (fun w' (hin : NIn w' (some ⟨go, oo, none⟩) n leaves) => NIn.cell hin k HKL.out)
                rw [HLX.out] at HX
                clear h5
                refine Go.Bul.wp_region_class (Mem _ w _ _) (by kernel_rfl) (by kernel_rfl) hM.drew ?_
                repeat ((with_reducible refine wpQuiet_step (fun K hK => ?_)); (first | ((first | ((with_reducible refine quiet_some ?_ ?_); (· rfl)) | ((with_reducible refine quiet_wanted ?_ ?_); (· rfl))); apply Exists.intro; refine ⟨fun w' hM' => ?_, ?_⟩; (· first | (go_simp; rfl) | exact qc hM' | exact qr (HX.out _ (ndT_in (hM'.thing _ (List.Mem.tail _ (List.Mem.tail _ (List.Mem.head _)))))) | exact ql hM' | exact qp hM')) | ((with_reducible refine quiet_unwanted ?_ ?_); (· rfl))); go_simp; (with_reducible refine hK _ ?_); clear hK K)
                refine wpQuiet_nil ?_
                intro wx hM
                go_wp2_with fail
                have M0 := Lib.hid hM
                clear hM
                go_loopw [17, 16] (fun i b wr => ∃ j : Nat, j ≤ h ∧ i = .int .i64 (j : Nat) ∧ b = .bool (chgB (!dd) path SB j) ∧ Mem [] w [⟨g11, 27, 16, ndC Z⟩, ⟨g8, 24, 16, ndC lf⟩, ⟨g4', 48, 18, X⟩] [ndT (.slice A3 h c3) path, ndT (.slice A2 h c2) SB, ndT (.slice (some ⟨go, oo, none⟩) n c1) leaves] wr) (fun i _ _ => h - (intOf i).toNat)
                case atStart => exact ⟨0, by omega, rfl, rfl, M0.out⟩
                case round =>
                  clear M0
                  obtain ⟨j, hj, rfl, rfl, hM⟩ := hrel
                  by_cases hlt : j < h
                  · have hjp : j < SB.length := by have := HSL.out; omega
                    have hjq : j < (path).length := by have := HQL.out; omega
                    obtain ⟨gp, op, rfl, _, h6⟩ := (ndT_in (hM.thing _ (List.Mem.tail _ (List.Mem.head _)))).row j hjp
                    obtain ⟨gq, oq, rfl, _, h7⟩ := (ndT_in (hM.thing _ (List.Mem.head _))).row j hjq
                    obtain ⟨y1, hy1⟩ : ∃ y, (path).getD j nd0 = y := ⟨_, rfl⟩
                    obtain ⟨y2, hy2⟩ : ∃ y, SB.getD j nd0 = y := ⟨_, rfl⟩
                    have hch : chgB (!dd) path SB (j + 1) = (chgB (!dd) path SB j || !decide (y1 = y2)) := by rw [← hy1, ← hy2]; rfl
                    have e1 : (path)[j] = y1 := by rw [← hy1]; simp [List.getD_eq_getElem?_getD, hjq]
                    have e2 : SB[j] = y2 := by rw [← hy2]; simp [List.getD_eq_getElem?_getD, hjp]
                    have C1 := Lib.hid (fun w' (hin : NIn w' (some ⟨gq, oq, none⟩) h path) => NIn.cell hin j hjq)
                    have C2 := Lib.hid (fun w' (hin : NIn w' (some ⟨gp, op, none⟩) h SB) => NIn.cell hin j hjp)
                    rw [e1] at C1
                    rw [e2] at C2
                    have qe := eq_nd y1 y2
                    obtain ⟨dy, hdy⟩ : ∃ d, decide (y1 = y2) = d := ⟨_, rfl⟩
                    rw [hdy] at qe hch
                    obtain ⟨cv, hcv⟩ : ∃ c, chgB (!dd) path SB j = c := ⟨_, rfl⟩
                    rw [hcv] at hch ⊢
                    have HCH := Lib.hid hch
                    have j0 : (0 : Int) ≤ (j : Int) := Int.natCast_nonneg _
                    have j1 : (j : Int) < (h : Int) := by omega
                    clear hch hcv hdy e1 hy1 e2 hy2 h6 h7 hjp hjq
                    cases cv
                    · go_upto_region 18 with fail
                      refine Go.Bul.wp_region_class (Mem _ w _ _) (by kernel_rfl) (by kernel_rfl) hM.drew ?_
                      repeat ((with_reducible refine wpQuiet_step (fun K hK => ?_)); (first | ((first | ((with_reducible refine quiet_some ?_ ?_); (· rfl)) | ((with_reducible refine quiet_wanted ?_ ?_); (· rfl))); apply Exists.intro; refine ⟨fun w' hM' => ?_, ?_⟩; (· first | (go_simp; rfl) | exact qc hM' | first | exact qr (C1.out _ (ndT_in (hM'.thing _ (List.Mem.head _)))) | exact qr (C2.out _ (ndT_in (hM'.thing _ (List.Mem.tail _ (List.Mem.head _))))) | exact ql hM' | exact qp hM')) | ((with_reducible refine quiet_unwanted ?_ ?_); (· rfl))); go_simp; (with_reducible refine hK _ ?_); clear hK K)
                      refine wpQuiet_nil ?_
                      intro wx hM
                      go_wp2_with fail
                      exact ⟨⟨j + 1, by omega, by go_num, by rw [HCH.out, Bool.false_or], hM⟩, by simp [intOf]; omega⟩
                    · go_upto_region 18 with fail
                      refine Go.Bul.wp_region_class (Mem _ w _ _) (by kernel_rfl) (by kernel_rfl) hM.drew ?_
                      repeat ((with_reducible refine wpQuiet_step (fun K hK => ?_)); (first | ((first | ((with_reducible refine quiet_some ?_ ?_); (· rfl)) | ((with_reducible refine quiet_wanted ?_ ?_); (· rfl))); apply Exists.intro; refine ⟨fun w' hM' => ?_, ?_⟩; (· first | (go_simp; rfl) | exact qc hM' | fail | exact ql hM' | exact qp hM')) | ((with_reducible refine quiet_unwanted ?_ ?_); (· rfl))); go_simp; (with_reducible refine hK _ ?_); clear hK K)
                      refine wpQuiet_nil ?_
                      intro wx hM
                      go_wp2_with fail
                      exact ⟨⟨j + 1, by omega, by go_num, by rw [HCH.out, Bool.true_or], hM⟩, by simp [intOf]; omega⟩
                  · obtain rfl : j = h := by omega
                    clear hlt hj
                    go_upto_region 19 with fail
                    refine wp_region_allHM hM (fun w' => HeldM [⟨g8, 24, 16, ndC lf⟩] w' ∧ (ndT (.slice (some ⟨go, oo, none⟩) n c1) leaves).P w') (by kernel_rfl) ?_
                    clear hM
                    intro wd hM
                    have hS := And.intro (HeldM.of (hM.subL (L' := [⟨g8, 24, 16, ndC lf⟩]) (List.Sublist.cons _ (List.Sublist.cons_cons _ (List.nil_sublist _))))) (hM.thing _ (List.Mem.tail _ (List.Mem.tail _ (List.Mem.head _))))
                    refine wpAllH_takes [0, 1, 2, 3, 5, 7, 4, 6] (by kernel_rfl) (fun _ _ _ _ _ h => h) hS (by kernel_rfl) ?_
                    simp only [pickOps, List.filterMap_cons, List.filterMap_nil, List.getElem?_cons_zero, List.getElem?_cons_succ]
                    repeat ((with_reducible apply wpHeld_step); (· rfl); (· (intro w hSw; first | (go_simp; rfl) | ((obtain ⟨⟨_, _, _, hM'⟩, hT'⟩ := hSw; first | exact yields_load (C := fun _ => True) (qr (HX.out _ (ndT_in hT'))) rfl | exact yields_load (C := fun _ => True) (ql hM') rfl)))); intro K hK; go_simp; (with_reducible refine hK _ ?_); clear hK K)
                    refine wpHeld_nil ?_
                    refine wpAllH_two 8 12 rfl rfl (by kernel_rfl) ?_ ?_
                    · go_wp2_with fail
                      refine (HC.out _ _ _ _ _ (ndT_in (hM.thing _ (List.Mem.tail _ (List.Mem.head _)))) (ndT_in (hM.thing _ (List.Mem.head _))) hM.below).mono ?_
                      rintro e w1 ⟨rfl, hb⟩
                      replace hM := hM.step hb
                      clear hb hS
                      have hS := And.intro (HeldM.of (hM.subL (L' := [⟨g8, 24, 16, ndC lf⟩]) (List.Sublist.cons _ (List.Sublist.cons_cons _ (List.nil_sublist _))))) (hM.thing _ (List.Mem.tail _ (List.Mem.tail _ (List.Mem.head _))))
                      go_wp2_with fail
                      refine then_normal ⟨hS, ?_⟩
                      refine wpAllH_takes [9, 10, 11] (by kernel_rfl) (fun _ _ _ _ _ h => h) hS (by kernel_rfl) ?_
                      simp only [pickOps, List.filterMap_cons, List.filterMap_nil, List.getElem?_cons_zero, List.getElem?_cons_succ]
                      repeat ((with_reducible apply wpHeld_step); (· rfl); (· (intro w hSw; first | (go_simp; rfl) | (fail))); intro K hK; go_simp; (with_reducible refine hK _ ?_); clear hK K)
                      refine wpHeld_nil ?_
                      refine wpAllH_one 12 rfl (by kernel_rfl) ?_
                      refine lz hM ?_ (hz := zero_mtwo)
                      clear hM hS
                      intro g18 wz hM
                      have hS := And.intro (HeldM.of (hM.subL (L' := [⟨g8, 24, 16, ndC lf⟩]) (List.Sublist.cons _ (List.Sublist.cons _ (List.Sublist.cons_cons _ (List.nil_sublist _)))))) (hM.thing _ (List.Mem.tail _ (List.Mem.tail _ (List.Mem.head _))))
                      refine wpList_then ⟨hS, ?_⟩
                      refine wpAllH_one 13 rfl (by kernel_rfl) ?_
                      refine lw hM ?_ (hs := twoC_size _ _ _) (h1 := twoC_one _ _ _) (hty := row_two)
                      clear hM hS
                      intro wy hM
                      have hS := And.intro (HeldM.of (hM.subL (L' := [⟨g8, 24, 16, ndC lf⟩]) (List.Sublist.cons _ (List.Sublist.cons _ (List.Sublist.cons_cons _ (List.nil_sublist _)))))) (hM.thing _ (List.Mem.tail _ (List.Mem.tail _ (List.Mem.head _))))
                      refine wpList_then ⟨hS, ?_⟩
                      refine wpAllH_takes [14] (by kernel_rfl) (fun _ _ _ _ _ h => h) hS (by kernel_rfl) ?_
                      simp only [pickOps, List.filterMap_cons, List.filterMap_nil, List.getElem?_cons_zero, List.getElem?_cons_succ]
                      repeat ((with_reducible apply wpHeld_step); (· rfl); (· (intro w hSw; first | (go_simp; rfl) | (fail))); intro K hK; go_simp; (with_reducible refine hK _ ?_); clear hK K)
                      refine wpHeld_nil ?_
                      refine wpAllH_done (by kernel_rfl) ?_
                      clear hS
                      rcases HCASE.out with ⟨rfl, hfc, rfl, rfl, rfl⟩ | ⟨rfl, hfc, hne, hJ⟩
                      · rw [hfc]
                        have qt := eq_two 0 0 (nd0, nd0) (nd0, nd0) (nd0, nd0) (nd0, nd0)
                        simp only [beq_self_eq_true, decide_true, Bool.and_self] at qt
                        clear hfc HCASE
                        go_wp2_with (first | ((with_reducible refine at_load_g ?_ ?_); (· rfl); refine ll hM ?_) | ((with_reducible refine at_build_g ?_ ?_); (· rfl); refine lbt0 ?_) | ((first | with_reducible refine at_load ?_ | ((with_reducible refine at_load_g ?_ ?_); (· rfl))); first | refine ll hM ?_ | refine lc hM ?_ | refine lp hM ?_) | ((with_reducible refine at_store ?_); first | (refine lw hM ?_; clear hM; intro wx hM) | (refine ls hM ?_; clear hM; intro wx hM) | (refine lt hM ?_; clear hM; intro wx hM)) | ((with_reducible refine at_alloc ?_); refine lz hM ?_; clear hM; intro gx wx hM) | ((with_reducible refine at_box ?_); refine lb hM ?_; clear hM; intro gx wx hM))
                        go_ret
                        exact ⟨rfl, hM.below⟩
                      · rw [hfc]
                        obtain ⟨g18', hg18⟩ := hM.name1
                        subst hg18
                        have qp1 := eq_pr 9997 u v
                        rw [decide_eq_false hne] at qp1
                        have HJ1 := Lib.hid (fun w' (hb : Below w.heap.size w w') => join_any lev u.1 u.2 w' (HT.out _ hb))
                        have HJ2 := Lib.hid (fun w' (hb : Below w.heap.size w w') => join_any lev v.1 v.2 w' (HT.out _ hb))
                        rw [hJ] at HJ2
                        generalize joinN lev u.1 u.2 = J at HJ1 HJ2
                        have qj := eq_nd J J
                        rw [decide_eq_true rfl] at qj
                        clear hfc HCASE hne hJ
                        go_upto_region 22 with fail
                        refine Go.Bul.wp_region_class (Mem _ w _ _) (by kernel_rfl) (by kernel_rfl) hM.drew ?_
                        repeat ((with_reducible refine wpQuiet_step (fun K hK => ?_)); (first | ((first | ((with_reducible refine quiet_some ?_ ?_); (· rfl)) | ((with_reducible refine quiet_wanted ?_ ?_); (· rfl))); apply Exists.intro; refine ⟨fun w' hM' => ?_, ?_⟩; (· first | (go_simp; rfl) | exact qc hM' (hv := twoC_0 _ _ _) | exact qp hM' (hX := twoC_A _ _ _) (hty := row_nd2) | exact qp hM' (hX := twoC_B _ _ _) (hty := row_nd2) | exact qp hM' (hX := twoC_A0 _ _ _) (hty := row_nd) | exact qp hM' (hX := twoC_A1 _ _ _) (hty := row_nd) | exact qp hM' (hX := twoC_B0 _ _ _) (hty := row_nd) | exact qp hM' (hX := twoC_B1 _ _ _) (hty := row_nd) | (go_simp; with_reducible refine at_calls ?_; first | exact quiet_mem_call hM' (HJ1.out _ hM'.below) | exact quiet_mem_call hM' (HJ2.out _ hM'.below)) | exact qc hM' | exact ql hM' | exact qp hM')) | ((with_reducible refine quiet_unwanted ?_ ?_); (· rfl))); go_simp; (with_reducible refine hK _ ?_); clear hK K)
                        refine wpQuiet_nil ?_
                        intro wx hM
                        go_wp2_with fail
                        go_ret
                        exact ⟨rfl, hM.below⟩
                    · refine lz hM ?_ (hz := zero_mtwo)
                      clear hM hS
                      intro g18 wz hM
                      have hS := And.intro (HeldM.of (hM.subL (L' := [⟨g8, 24, 16, ndC lf⟩]) (List.Sublist.cons _ (List.Sublist.cons _ (List.Sublist.cons_cons _ (List.nil_sublist _)))))) (hM.thing _ (List.Mem.tail _ (List.Mem.tail _ (List.Mem.head _))))
                      refine wpList_then ⟨hS, ?_⟩
                      refine wpAllH_one 8 rfl (by kernel_rfl) ?_
                      go_wp2_with fail
                      refine (HC.out _ _ _ _ _ (ndT_in (hM.thing _ (List.Mem.tail _ (List.Mem.head _)))) (ndT_in (hM.thing _ (List.Mem.head _))) hM.below).mono ?_
                      rintro e w1 ⟨rfl, hb⟩
                      replace hM := hM.step hb
                      clear hb hS
                      have hS := And.intro (HeldM.of (hM.subL (L' := [⟨g8, 24, 16, ndC lf⟩]) (List.Sublist.cons _ (List.Sublist.cons _ (List.Sublist.cons_cons _ (List.nil_sublist _)))))) (hM.thing _ (List.Mem.tail _ (List.Mem.tail _ (List.Mem.head _))))
                      go_wp2_with fail
                      refine then_normal ⟨hS, ?_⟩
                      refine wpAllH_takes [9, 10, 11] (by kernel_rfl) (fun _ _ _ _ _ h => h) hS (by kernel_rfl) ?_
                      simp only [pickOps, List.filterMap_cons, List.filterMap_nil, List.getElem?_cons_zero, List.getElem?_cons_succ]
                      repeat ((with_reducible apply wpHeld_step); (· rfl); (· (intro w hSw; first | (go_simp; rfl) | (fail))); intro K hK; go_simp; (with_reducible refine hK _ ?_); clear hK K)
                      refine wpHeld_nil ?_
                      refine wpAllH_one 13 rfl (by kernel_rfl) ?_
                      refine lw hM ?_ (hs := twoC_size _ _ _) (h1 := twoC_one _ _ _) (hty := row_two)
                      clear hM hS
                      intro wy hM
                      have hS := And.intro (HeldM.of (hM.subL (L' := [⟨g8, 24, 16, ndC lf⟩]) (List.Sublist.cons _ (List.Sublist.cons _ (List.Sublist.cons_cons _ (List.nil_sublist _)))))) (hM.thing _ (List.Mem.tail _ (List.Mem.tail _ (List.Mem.head _))))
                      refine wpList_then ⟨hS, ?_⟩
                      refine wpAllH_takes [14] (by kernel_rfl) (fun _ _ _ _ _ h => h) hS (by kernel_rfl) ?_
                      simp only [pickOps, List.filterMap_cons, List.filterMap_nil, List.getElem?_cons_zero, List.getElem?_cons_succ]
                      repeat ((with_reducible apply wpHeld_step); (· rfl); (· (intro w hSw; first | (go_simp; rfl) | (fail))); intro K hK; go_simp; (with_reducible refine hK _ ?_); clear hK K)
                      refine wpHeld_nil ?_
                      refine wpAllH_done (by kernel_rfl) ?_
                      clear hS
                      rcases HCASE.out with ⟨rfl, hfc, rfl, rfl, rfl⟩ | ⟨rfl, hfc, hne, hJ⟩
                      · rw [hfc]
                        have qt := eq_two 0 0 (nd0, nd0) (nd0, nd0) (nd0, nd0) (nd0, nd0)
                        simp only [beq_self_eq_true, decide_true, Bool.and_self] at qt
                        clear hfc HCASE
                        go_wp2_with (first | ((with_reducible refine at_load_g ?_ ?_); (· rfl); refine ll hM ?_) | ((with_reducible refine at_build_g ?_ ?_); (· rfl); refine lbt0 ?_) | ((first | with_reducible refine at_load ?_ | ((with_reducible refine at_load_g ?_ ?_); (· rfl))); first | refine ll hM ?_ | refine lc hM ?_ | refine lp hM ?_) | ((with_reducible refine at_store ?_); first | (refine lw hM ?_; clear hM; intro wx hM) | (refine ls hM ?_; clear hM; intro wx hM) | (refine lt hM ?_; clear hM; intro wx hM)) | ((with_reducible refine at_alloc ?_); refine lz hM ?_; clear hM; intro gx wx hM) | ((with_reducible refine at_box ?_); refine lb hM ?_; clear hM; intro gx wx hM))
                        go_ret
                        exact ⟨rfl, hM.below⟩
                      · rw [hfc]
                        obtain ⟨g18', hg18⟩ := hM.name1
                        subst hg18
                        have qp1 := eq_pr 9997 u v
                        rw [decide_eq_false hne] at qp1
                        have HJ1 := Lib.hid (fun w' (hb : Below w.heap.size w w') => join_any lev u.1 u.2 w' (HT.out _ hb))
                        have HJ2 := Lib.hid (fun w' (hb : Below w.heap.size w w') => join_any lev v.1 v.2 w' (HT.out _ hb))
                        rw [hJ] at HJ2
                        generalize joinN lev u.1 u.2 = J at HJ1 HJ2
                        have qj := eq_nd J J
                        rw [decide_eq_true rfl] at qj
                        clear hfc HCASE hne hJ
                        go_upto_region 22 with fail
                        refine Go.Bul.wp_region_class (Mem _ w _ _) (by kernel_rfl) (by kernel_rfl) hM.drew ?_
                        repeat ((with_reducible refine wpQuiet_step (fun K hK => ?_)); (first | ((first | ((with_reducible refine quiet_some ?_ ?_); (· rfl)) | ((with_reducible refine quiet_wanted ?_ ?_); (· rfl))); apply Exists.intro; refine ⟨fun w' hM' => ?_, ?_⟩; (· first | (go_simp; rfl) | exact qc hM' (hv := twoC_0 _ _ _) | exact qp hM' (hX := twoC_A _ _ _) (hty := row_nd2) | exact qp hM' (hX := twoC_B _ _ _) (hty := row_nd2) | exact qp hM' (hX := twoC_A0 _ _ _) (hty := row_nd) | exact qp hM' (hX := twoC_A1 _ _ _) (hty := row_nd) | exact qp hM' (hX := twoC_B0 _ _ _) (hty := row_nd) | exact qp hM' (hX := twoC_B1 _ _ _) (hty := row_nd) | (go_simp; with_reducible refine at_calls ?_; first | exact quiet_mem_call hM' (HJ1.out _ hM'.below) | exact quiet_mem_call hM' (HJ2.out _ hM'.below)) | exact qc hM' | exact ql hM' | exact qp hM')) | ((with_reducible refine quiet_unwanted ?_ ?_); (· rfl))); go_simp; (with_reducible refine hK _ ?_); clear hK K)
                        refine wpQuiet_nil ?_
                        intro wx hM
                        go_wp2_with fail
                        go_ret
                        exact ⟨rfl, hM.below⟩
            · have q5 : ((m : Int) != (h : Int)) = true := by simp; omega
              clear hmh
              go_wp2_with (first | ((first | with_reducible refine at_load ?_ | ((with_reducible refine at_load_g ?_ ?_); (· rfl))); first | refine ll hM ?_ | refine lc hM ?_ | refine lp hM ?_) | ((with_reducible refine at_store ?_); first | (refine lw hM ?_; clear hM; intro wx hM) | (refine ls hM ?_; clear hM; intro wx hM) | (refine lt hM ?_; clear hM; intro wx hM)) | ((with_reducible refine at_alloc ?_); refine lz hM ?_; clear hM; intro gx wx hM) | ((with_reducible refine at_box ?_); refine lb hM ?_; clear hM; intro gx wx hM))
              go_ret
              exact ⟨rfl, hM.below⟩
          · obtain ⟨vb, hvb⟩ : ∃ b, verF Z lf (k : Int) SB = b := ⟨_, rfl⟩
            have HV := Lib.hid (fun Q c' w' hq hb => HVA.out Q c' h SB w' hq (by omega) hb)
            rw [hvb] at HV
            have q0 : ((h : Int) != (h : Int)) = false := by simp
            cases vb
            · go_wp2_with (first | ((with_reducible refine (HV.out _ _ _ (ndT_in (hM.thing _ (List.Mem.tail _ (List.Mem.head _)))) hM.below).mono ?_); rintro e w1 ⟨rfl, hb⟩; replace hM := hM.step hb; clear hb) | ((first | with_reducible refine at_load ?_ | ((with_reducible refine at_load_g ?_ ?_); (· rfl))); first | refine ll hM ?_ | refine lc hM ?_ | refine lp hM ?_) | ((with_reducible refine at_store ?_); first | (refine lw hM ?_; clear hM; intro wx hM) | (refine ls hM ?_; clear hM; intro wx hM) | (refine lt hM ?_; clear hM; intro wx hM)) | ((with_reducible refine at_alloc ?_); refine lz hM ?_; clear hM; intro gx wx hM) | ((with_reducible refine at_box ?_); refine lb hM ?_; clear hM; intro gx wx hM))
              go_ret
              exact ⟨rfl, hM.below⟩
            · obtain ⟨lev, u, v, ob, hco, hcase⟩ := HCC.out SB HSL.out hvb
              have HC := Lib.hid hco
              have HCASE := Lib.hid hcase
              clear hco hcase hvb
              go_upto_region 14 with (first | ((with_reducible refine (HV.out _ _ _ (ndT_in (hM.thing _ (List.Mem.tail _ (List.Mem.head _)))) hM.below).mono ?_); rintro e w1 ⟨rfl, hb⟩; replace hM := hM.step hb; clear hb) | ((first | with_reducible refine at_load ?_ | ((with_reducible refine at_load_g ?_ ?_); (· rfl))); first | refine ll hM ?_ | refine lc hM ?_ | refine lp hM ?_) | ((with_reducible refine at_store ?_); first | (refine lw hM ?_; clear hM; intro wx hM) | (refine ls hM ?_; clear hM; intro wx hM) | (refine lt hM ?_; clear hM; intro wx hM)) | ((with_reducible refine at_alloc ?_); refine lz hM ?_; clear hM; intro gx wx hM) | ((with_reducible refine at_box ?_); refine lb hM ?_; clear hM; intro gx wx hM))
              obtain ⟨go, oo, rfl, _, h5⟩ := (ndT_in (hM.thing _ (List.Mem.tail _ (List.Mem.tail _ (List.Mem.head _))))).row k HKL.out
              have HX := Lib.hid (fun w' (hin : NIn w' (some ⟨go, oo, none⟩) n leaves) => NIn.cell hin k HKL.out)
              rw [HLX.out] at HX
              clear h5
              refine Go.Bul.wp_region_class (Mem _ w _ _) (by kernel_rfl) (by kernel_rfl) hM.drew ?_
              repeat ((with_reducible refine wpQuiet_step (fun K hK => ?_)); (first | ((first | ((with_reducible refine quiet_some ?_ ?_); (· rfl)) | ((with_reducible refine quiet_wanted ?_ ?_); (· rfl))); apply Exists.intro; refine ⟨fun w' hM' => ?_, ?_⟩; (· first | (go_simp; rfl) | exact qc hM' | exact qr (HX.out _ (ndT_in (hM'.thing _ (List.Mem.tail _ (List.Mem.tail _ (List.Mem.head _)))))) | exact ql hM' | exact qp hM')) | ((with_reducible refine quiet_unwanted ?_ ?_); (· rfl))); go_simp; (with_reducible refine hK _ ?_); clear hK K)
              refine wpQuiet_nil ?_
              intro wx hM
              go_wp2_with fail
              have M0 := Lib.hid hM
              clear hM
              go_loopw [17, 16] (fun i b wr => ∃ j : Nat, j ≤ h ∧ i = .int .i64 (j : Nat) ∧ b = .bool (chgB (!dd) SB SB j) ∧ Mem [] w [⟨g11, 27, 16, ndC Z⟩, ⟨g8, 24, 16, ndC lf⟩, ⟨g4', 48, 18, X⟩] [ndT (.slice A3 m c3) path, ndT (.slice A2 h c2) SB, ndT (.slice (some ⟨go, oo, none⟩) n c1) leaves] wr) (fun i _ _ => h - (intOf i).toNat)
              case atStart => exact ⟨0, by omega, rfl, rfl, M0.out⟩
              case round =>
                clear M0
                obtain ⟨j, hj, rfl, rfl, hM⟩ := hrel
                by_cases hlt : j < h
                · have hjp : j < SB.length := by have := HSL.out; omega
                  have hjq : j < (SB).length := by have := HSL.out; omega
                  obtain ⟨gp, op, rfl, _, h6⟩ := (ndT_in (hM.thing _ (List.Mem.tail _ (List.Mem.head _)))).row j hjp
                  obtain ⟨y1, hy1⟩ : ∃ y, (SB).getD j nd0 = y := ⟨_, rfl⟩
                  have hch : chgB (!dd) SB SB (j + 1) = (chgB (!dd) SB SB j || !decide (y1 = y1)) := by rw [← hy1]; rfl
                  have e1 : (SB)[j] = y1 := by rw [← hy1]; simp [List.getD_eq_getElem?_getD, hjq]
                  have C1 := Lib.hid (fun w' (hin : NIn w' (some ⟨gp, op, none⟩) h SB) => NIn.cell hin j hjq)
                  rw [e1] at C1
                  have qe := eq_nd y1 y1
                  obtain ⟨dy, hdy⟩ : ∃ d, decide (y1 = y1) = d := ⟨_, rfl⟩
                  rw [hdy] at qe hch
                  obtain ⟨cv, hcv⟩ : ∃ c, chgB (!dd) SB SB j = c := ⟨_, rfl⟩
                  rw [hcv] at hch ⊢
                  have HCH := Lib.hid hch
                  have j0 : (0 : Int) ≤ (j : Int) := Int.natCast_nonneg _
                  have j1 : (j : Int) < (h : Int) := by omega
                  clear hch hcv hdy e1 hy1 h6 hjp hjq
                  cases cv
                  · go_upto_region 18 with fail
                    refine Go.Bul.wp_region_class (Mem _ w _ _) (by kernel_rfl) (by kernel_rfl) hM.drew ?_
                    repeat ((with_reducible refine wpQuiet_step (fun K hK => ?_)); (first | ((first | ((with_reducible refine quiet_some ?_ ?_); (· rfl)) | ((with_reducible refine quiet_wanted ?_ ?_); (· rfl))); apply Exists.intro; refine ⟨fun w' hM' => ?_, ?_⟩; (· first | (go_simp; rfl) | exact qc hM' | first | exact qr (C1.out _ (ndT_in (hM'.thing _ (List.Mem.tail _ (List.Mem.head _))))) | exact ql hM' | exact qp hM')) | ((with_reducible refine quiet_unwanted ?_ ?_); (· rfl))); go_simp; (with_reducible refine hK _ ?_); clear hK K)
                    refine wpQuiet_nil ?_
                    intro wx hM
                    go_wp2_with fail
                    exact ⟨⟨j + 1, by omega, by go_num, by rw [HCH.out, Bool.false_or], hM⟩, by simp [intOf]; omega⟩
                  · go_upto_region 18 with fail
                    refine Go.Bul.wp_region_class (Mem _ w _ _) (by kernel_rfl) (by kernel_rfl) hM.drew ?_
                    repeat ((with_reducible refine wpQuiet_step (fun K hK => ?_)); (first | ((first | ((with_reducible refine quiet_some ?_ ?_); (· rfl)) | ((with_reducible refine quiet_wanted ?_ ?_); (· rfl))); apply Exists.intro; refine ⟨fun w' hM' => ?_, ?_⟩; (· first | (go_simp; rfl) | exact qc hM' | fail | exact ql hM' | exact qp hM')) | ((with_reducible refine quiet_unwanted ?_ ?_); (· rfl))); go_simp; (with_reducible refine hK _ ?_); clear hK K)
                    refine wpQuiet_nil ?_
                    intro wx hM
                    go_wp2_with fail
                    exact ⟨⟨j + 1, by omega, by go_num, by rw [HCH.out, Bool.true_or], hM⟩, by simp [intOf]; omega⟩
                · obtain rfl : j = h := by omega
                  clear hlt hj
                  go_upto_region 19 with fail
                  refine wp_region_allHM hM (fun w' => HeldM [⟨g8, 24, 16, ndC lf⟩] w' ∧ (ndT (.slice (some ⟨go, oo, none⟩) n c1) leaves).P w') (by kernel_rfl) ?_
                  clear hM
                  intro wd hM
                  have hS := And.intro (HeldM.of (hM.subL (L' := [⟨g8, 24, 16, ndC lf⟩]) (List.Sublist.cons _ (List.Sublist.cons_cons _ (List.nil_sublist _))))) (hM.thing _ (List.Mem.tail _ (List.Mem.tail _ (List.Mem.head _))))
                  refine wpAllH_takes [0, 1, 2, 3, 5, 7, 4, 6] (by kernel_rfl) (fun _ _ _ _ _ h => h) hS (by kernel_rfl) ?_
                  simp only [pickOps, List.filterMap_cons, List.filterMap_nil, List.getElem?_cons_zero, List.getElem?_cons_succ]
                  repeat ((with_reducible apply wpHeld_step); (· rfl); (· (intro w hSw; first | (go_simp; rfl) | ((obtain ⟨⟨_, _, _, hM'⟩, hT'⟩ := hSw; first | exact yields_load (C := fun _ => True) (qr (HX.out _ (ndT_in hT'))) rfl | exact yields_load (C := fun _ => True) (ql hM') rfl)))); intro K hK; go_simp; (with_reducible refine hK _ ?_); clear hK K)
                  refine wpHeld_nil ?_
                  refine wpAllH_two 8 12 rfl rfl (by kernel_rfl) ?_ ?_
                  · go_wp2_with fail
                    refine (HC.out _ _ _ _ _ (ndT_in (hM.thing _ (List.Mem.tail _ (List.Mem.head _)))) (ndT_in (hM.thing _ (List.Mem.tail _ (List.Mem.head _)))) hM.below).mono ?_
                    rintro e w1 ⟨rfl, hb⟩
                    replace hM := hM.step hb
                    clear hb hS
                    have hS := And.intro (HeldM.of (hM.subL (L' := [⟨g8, 24, 16, ndC lf⟩]) (List.Sublist.cons _ (List.Sublist.cons_cons _ (List.nil_sublist _))))) (hM.thing _ (List.Mem.tail _ (List.Mem.tail _ (List.Mem.head _))))
                    go_wp2_with fail
                    refine then_normal ⟨hS, ?_⟩
                    refine wpAllH_takes [9, 10, 11] (by kernel_rfl) (fun _ _ _ _ _ h => h) hS (by kernel_rfl) ?_
                    simp only [pickOps, List.filterMap_cons, List.filterMap_nil, List.getElem?_cons_zero, List.getElem?_cons_succ]
                    repeat ((with_reducible apply wpHeld_step); (· rfl); (· (intro w hSw; first | (go_simp; rfl) | (fail))); intro K hK; go_simp; (with_reducible refine hK _ ?_); clear hK K)
                    refine wpHeld_nil ?_
                    refine wpAllH_one 12 rfl (by kernel_rfl) ?_
                    refine lz hM ?_ (hz := zero_mtwo)
                    clear hM hS
                    intro g18 wz hM
                    have hS := And.intro (HeldM.of (hM.subL (L' := [⟨g8, 24, 16, ndC lf⟩]) (List.Sublist.cons _ (List.Sublist.cons _ (List.Sublist.cons_cons _ (List.nil_sublist _)))))) (hM.thing _ (List.Mem.tail _ (List.Mem.tail _ (List.Mem.head _))))
                    refine wpList_then ⟨hS, ?_⟩
                    refine wpAllH_one 13 rfl (by kernel_rfl) ?_
                    refine lw hM ?_ (hs := twoC_size _ _ _) (h1 := twoC_one _ _ _) (hty := row_two)
                    clear hM hS
                    intro wy hM
                    have hS := And.intro (HeldM.of (hM.subL (L' := [⟨g8, 24, 16, ndC lf⟩]) (List.Sublist.cons _ (List.Sublist.cons _ (List.Sublist.cons_cons _ (List.nil_sublist _)))))) (hM.thing _ (List.Mem.tail _ (List.Mem.tail _ (List.Mem.head _))))
                    refine wpList_then ⟨hS, ?_⟩
                    refine wpAllH_takes [14] (by kernel_rfl) (fun _ _ _ _ _ h => h) hS (by kernel_rfl) ?_
                    simp only [pickOps, List.filterMap_cons, List.filterMap_nil, List.getElem?_cons_zero, List.getElem?_cons_succ]
                    repeat ((with_reducible apply wpHeld_step); (· rfl); (· (intro w hSw; first | (go_simp; rfl) | (fail))); intro K hK; go_simp; (with_reducible refine hK _ ?_); clear hK K)
                    refine wpHeld_nil ?_
                    refine wpAllH_done (by kernel_rfl) ?_
                    clear hS
                    rcases HCASE.out with ⟨rfl, hfc, rfl, rfl, rfl⟩ | ⟨rfl, hfc, hne, hJ⟩
                    · rw [hfc]
                      have qt := eq_two 0 0 (nd0, nd0) (nd0, nd0) (nd0, nd0) (nd0, nd0)
                      simp only [beq_self_eq_true, decide_true, Bool.and_self] at qt
                      clear hfc HCASE
                      go_wp2_with (first | ((with_reducible refine at_load_g ?_ ?_); (· rfl); refine ll hM ?_) | ((with_reducible refine at_build_g ?_ ?_); (· rfl); refine lbt0 ?_) | ((first | with_reducible refine at_load ?_ | ((with_reducible refine at_load_g ?_ ?_); (· rfl))); first | refine ll hM ?_ | refine lc hM ?_ | refine lp hM ?_) | ((with_reducible refine at_store ?_); first | (refine lw hM ?_; clear hM; intro wx hM) | (refine ls hM ?_; clear hM; intro wx hM) | (refine lt hM ?_; clear hM; intro wx hM)) | ((with_reducible refine at_alloc ?_); refine lz hM ?_; clear hM; intro gx wx hM) | ((with_reducible refine at_box ?_); refine lb hM ?_; clear hM; intro gx wx hM))
                      go_ret
                      exact ⟨rfl, hM.below⟩
                    · rw [hfc]
                      obtain ⟨g18', hg18⟩ := hM.name1
                      subst hg18
                      have qp1 := eq_pr 9997 u v
                      rw [decide_eq_false hne] at qp1
                      have HJ1 := Lib.hid (fun w' (hb : Below w.heap.size w w') => join_any lev u.1 u.2 w' (HT.out _ hb))
                      have HJ2 := Lib.hid (fun w' (hb : Below w.heap.size w w') => join_any lev v.1 v.2 w' (HT.out _ hb))
                      rw [hJ] at HJ2
                      generalize joinN lev u.1 u.2 = J at HJ1 HJ2
                      have qj := eq_nd J J
                      rw [decide_eq_true rfl] at qj
                      clear hfc HCASE hne hJ
                      go_upto_region 22 with fail
                      refine Go.Bul.wp_region_class (Mem _ w _ _) (by kernel_rfl) (by kernel_rfl) hM.drew ?_
                      repeat ((with_reducible refine wpQuiet_step (fun K hK => ?_)); (first | ((first | ((with_reducible refine quiet_some ?_ ?_); (· rfl)) | ((with_reducible refine quiet_wanted ?_ ?_); (· rfl))); apply Exists.intro; refine ⟨fun w' hM' => ?_, ?_⟩; (· first | (go_simp; rfl) | exact qc hM' (hv := twoC_0 _ _ _) | exact qp hM' (hX := twoC_A _ _ _) (hty := row_nd2) | exact qp hM' (hX := twoC_B _ _ _) (hty := row_nd2) | exact qp hM' (hX := twoC_A0 _ _ _) (hty := row_nd) | exact qp hM' (hX := twoC_A1 _ _ _) (hty := row_nd) | exact qp hM' (hX := twoC_B0 _ _ _) (hty := row_nd) | exact qp hM' (hX := twoC_B1 _ _ _) (hty := row_nd) | (go_simp; with_reducible refine at_calls ?_; first | exact quiet_mem_call hM' (HJ1.out _ hM'.below) | exact quiet_mem_call hM' (HJ2.out _ hM'.below)) | exact qc hM' | exact ql hM' | exact qp hM')) | ((with_reducible refine quiet_unwanted ?_ ?_); (· rfl))); go_simp; (with_reducible refine hK _ ?_); clear hK K)
                      refine wpQuiet_nil ?_
                      intro wx hM
                      go_wp2_with fail
                      go_ret
                      exact ⟨rfl, hM.below⟩
                  · refine lz hM ?_ (hz := zero_mtwo)
                    clear hM hS
                    intro g18 wz hM
                    have hS := And.intro (HeldM.of (hM.subL (L' := [⟨g8, 24, 16, ndC lf⟩]) (List.Sublist.cons _ (List.Sublist.cons _ (List.Sublist.cons_cons _ (List.nil_sublist _)))))) (hM.thing _ (List.Mem.tail _ (List.Mem.tail _ (List.Mem.head _))))
                    refine wpList_then ⟨hS, ?_⟩
                    refine wpAllH_one 8 rfl (by kernel_rfl) ?_
                    go_wp2_with fail
                    refine (HC.out _ _ _ _ _ (ndT_in (hM.thing _ (List.Mem.tail _ (List.Mem.head _)))) (ndT_in (hM.thing _ (List.Mem.tail _ (List.Mem.head _)))) hM.below).mono ?_
                    rintro e w1 ⟨rfl, hb⟩
                    replace hM := hM.step hb
                    clear hb hS
                    have hS := And.intro (HeldM.of (hM.subL (L' := [⟨g8, 24, 16, ndC lf⟩]) (List.Sublist.cons _ (List.Sublist.cons _ (List.Sublist.cons_cons _ (List.nil_sublist _)))))) (hM.thing _ (List.Mem.tail _ (List.Mem.tail _ (List.Mem.head _))))
                    go_wp2_with fail
                    refine then_normal ⟨hS, ?_⟩
                    refine wpAllH_takes [9, 10, 11] (by kernel_rfl) (fun _ _ _ _ _ h => h) hS (by kernel_rfl) ?_
                    simp only [pickOps, List.filterMap_cons, List.filterMap_nil, List.getElem?_cons_zero, List.getElem?_cons_succ]
                    repeat ((with_reducible apply wpHeld_step); (· rfl); (· (intro w hSw; first | (go_simp; rfl) | (fail))); intro K hK; go_simp; (with_reducible refine hK _ ?_); clear hK K)
                    refine wpHeld_nil ?_
                    refine wpAllH_one 13 rfl (by kernel_rfl) ?_
                    refine lw hM ?_ (hs := twoC_size _ _ _) (h1 := twoC_one _ _ _) (hty := row_two)
                    clear hM hS
                    intro wy hM
                    have hS := And.intro (HeldM.of (hM.subL (L' := [⟨g8, 24, 16, ndC lf⟩]) (List.Sublist.cons _ (List.Sublist.cons _ (List.Sublist.cons_cons _ (List.nil_sublist _)))))) (hM.thing _ (List.Mem.tail _ (List.Mem.tail _ (List.Mem.head _))))
                    refine wpList_then ⟨hS, ?_⟩
                    refine wpAllH_takes [14] (by kernel_rfl) (fun _ _ _ _ _ h => h) hS (by kernel_rfl) ?_
                    simp only [pickOps, List.filterMap_cons, List.filterMap_nil, List.getElem?_cons_zero, List.getElem?_cons_succ]
                    repeat ((with_reducible apply wpHeld_step); (· rfl); (· (intro w hSw; first | (go_simp; rfl) | (fail))); intro K hK; go_simp; (with_reducible refine hK _ ?_); clear hK K)
                    refine wpHeld_nil ?_
                    refine wpAllH_done (by kernel_rfl) ?_
                    clear hS
                    rcases HCASE.out with ⟨rfl, hfc, rfl, rfl, rfl⟩ | ⟨rfl, hfc, hne, hJ⟩
                    · rw [hfc]
                      have qt := eq_two 0 0 (nd0, nd0) (nd0, nd0) (nd0, nd0) (nd0, nd0)
                      simp only [beq_self_eq_true, decide_true, Bool.and_self] at qt
                      clear hfc HCASE
                      go_wp2_with (first | ((with_reducible refine at_load_g ?_ ?_); (· rfl); refine ll hM ?_) | ((with_reducible refine at_build_g ?_ ?_); (· rfl); refine lbt0 ?_) | ((first | with_reducible refine at_load ?_ | ((with_reducible refine at_load_g ?_ ?_); (· rfl))); first | refine ll hM ?_ | refine lc hM ?_ | refine lp hM ?_) | ((with_reducible refine at_store ?_); first | (refine lw hM ?_; clear hM; intro wx hM) | (refine ls hM ?_; clear hM; intro wx hM) | (refine lt hM ?_; clear hM; intro wx hM)) | ((with_reducible refine at_alloc ?_); refine lz hM ?_; clear hM; intro gx wx hM) | ((with_reducible refine at_box ?_); refine lb hM ?_; clear hM; intro gx wx hM))
                      go_ret
                      exact ⟨rfl, hM.below⟩
                    · rw [hfc]
                      obtain ⟨g18', hg18⟩ := hM.name1
                      subst hg18
                      have qp1 := eq_pr 9997 u v
                      rw [decide_eq_false hne] at qp1
                      have HJ1 := Lib.hid (fun w' (hb : Below w.heap.size w w') => join_any lev u.1 u.2 w' (HT.out _ hb))
                      have HJ2 := Lib.hid (fun w' (hb : Below w.heap.size w w') => join_any lev v.1 v.2 w' (HT.out _ hb))
                      rw [hJ] at HJ2
                      generalize joinN lev u.1 u.2 = J at HJ1 HJ2
                      have qj := eq_nd J J
                      rw [decide_eq_true rfl] at qj
                      clear hfc HCASE hne hJ
                      go_upto_region 22 with fail
                      refine Go.Bul.wp_region_class (Mem _ w _ _) (by kernel_rfl) (by kernel_rfl) hM.drew ?_
                      repeat ((with_reducible refine wpQuiet_step (fun K hK => ?_)); (first | ((first | ((with_reducible refine quiet_some ?_ ?_); (· rfl)) | ((with_reducible refine quiet_wanted ?_ ?_); (· rfl))); apply Exists.intro; refine ⟨fun w' hM' => ?_, ?_⟩; (· first | (go_simp; rfl) | exact qc hM' (hv := twoC_0 _ _ _) | exact qp hM' (hX := twoC_A _ _ _) (hty := row_nd2) | exact qp hM' (hX := twoC_B _ _ _) (hty := row_nd2) | exact qp hM' (hX := twoC_A0 _ _ _) (hty := row_nd) | exact qp hM' (hX := twoC_A1 _ _ _) (hty := row_nd) | exact qp hM' (hX := twoC_B0 _ _ _) (hty := row_nd) | exact qp hM' (hX := twoC_B1 _ _ _) (hty := row_nd) | (go_simp; with_reducible refine at_calls ?_; first | exact quiet_mem_call hM' (HJ1.out _ hM'.below) | exact quiet_mem_call hM' (HJ2.out _ hM'.below)) | exact qc hM' | exact ql hM' | exact qp hM')) | ((with_reducible refine quiet_unwanted ?_ ?_); (· rfl))); go_simp; (with_reducible refine hK _ ?_); clear hK K)
                      refine wpQuiet_nil ?_
                      intro wx hM
                      go_wp2_with fail
                      go_ret
                      exact ⟨rfl, hM.below⟩
        · have q2 : ((pathF leaves idx).2 != 0) = true := by simpa using hpf
          rw [hce] at HRT
          generalize (pathF leaves idx).2 = pe at q2 HPA
          generalize (pathF leaves idx).1 = P at HPA
          generalize rootN leaves = Z at HRT
          clear hr hp hn hm hT h64 h12 hl hce hpf hpl HO2
          go_enter Tryd.func8, Tryd.ntmps8
          go_upto_region 1 with (first | (refine lb hM ?_ (cs := X) (ty := 48) (hn := HXS.out) (hty := row_claim); clear hM; intro g4 w3 hM) | ((first | with_reducible refine at_load ?_ | ((with_reducible refine at_load_g ?_ ?_); (· rfl))); first | refine ll hM ?_ | refine lc hM ?_ | refine lp hM ?_) | ((with_reducible refine at_store ?_); first | (refine lw hM ?_; clear hM; intro wx hM) | (refine ls hM ?_; clear hM; intro wx hM) | (refine lt hM ?_; clear hM; intro wx hM)) | ((with_reducible refine at_alloc ?_); refine lz hM ?_; clear hM; intro gx wx hM) | ((with_reducible refine at_box ?_); refine lb hM ?_; clear hM; intro gx wx hM))
          obtain ⟨g4', hg4⟩ := hM.name1
          subst hg4
          refine wp_region_allHM hM (HeldM [⟨g4', 48, 18, X⟩]) (by kernel_rfl) ?_
          clear hM
          intro wd hM
          have hS := HeldM.of (hM.subL (L' := [_]) (List.Sublist.refl _))
          refine wpAllH_takes [0, 1, 2, 3, 4, 5] (by kernel_rfl) (fun _ _ _ _ _ h => h) hS (by kernel_rfl) ?_
          simp only [pickOps, List.filterMap_cons, List.filterMap_nil, List.getElem?_cons_zero, List.getElem?_cons_succ]
          repeat ((with_reducible apply wpHeld_step); (· rfl); (· (intro w hSw; first | (go_simp; rfl) | ((obtain ⟨_, _, _, hM'⟩ := hSw; first | exact yields_load (C := fun _ => True) (qp hM' (hX := HXN.out)) rfl | exact yields_load (C := fun _ => True) (qc hM' (hv := HX0.out)) rfl | exact yields_load (C := fun _ => True) (qc hM' (hv := HX17.out)) rfl)))); intro K hK; go_simp; (with_reducible refine hK _ ?_); clear hK K)
          refine wpHeld_nil ?_
          refine wpAllH_one 6 rfl (by kernel_rfl) ?_
          refine lz hM ?_
          clear hM hS
          intro g8 wz hM
          have hS := HeldM.of (hM.subL (L' := [⟨g4', 48, 18, X⟩]) (List.sublist_cons_self _ _))
          refine wpList_then ⟨hS, ?_⟩
          refine wpAllH_takes [7] (by kernel_rfl) (fun _ _ _ _ _ h => h) hS (by kernel_rfl) ?_
          simp only [pickOps, List.filterMap_cons, List.filterMap_nil, List.getElem?_cons_zero, List.getElem?_cons_succ]
          repeat ((with_reducible apply wpHeld_step); (· rfl); (· (intro w hSw; first | (go_simp; rfl) | (fail))); intro K hK; go_simp; (with_reducible refine hK _ ?_); clear hK K)
          refine wpHeld_nil ?_
          refine wpAllH_one 8 rfl (by kernel_rfl) ?_
          refine lw hM ?_
          clear hM hS
          intro wy hM
          have hS := HeldM.of (hM.subL (L' := [⟨g4', 48, 18, X⟩]) (List.sublist_cons_self _ _))
          refine wpList_then ⟨hS, ?_⟩
          refine wpAllH_takes [9] (by kernel_rfl) (fun _ _ _ _ _ h => h) hS (by kernel_rfl) ?_
          simp only [pickOps, List.filterMap_cons, List.filterMap_nil, List.getElem?_cons_zero, List.getElem?_cons_succ]
          repeat ((with_reducible apply wpHeld_step); (· rfl); (· (intro w hSw; first | (go_simp; rfl) | (fail))); intro K hK; go_simp; (with_reducible refine hK _ ?_); clear hK K)
          refine wpHeld_nil ?_
          refine wpAllH_done (by kernel_rfl) ?_
          clear hS
          go_wp2_with (first | ((with_reducible refine (HK.out _ hM.below).mono ?_); rintro e w1 ⟨rfl, hb⟩; replace hM := hM.step hb; clear hb) | ((with_reducible refine (HO.out _ hM.below).mono ?_); rintro e w1 ⟨A1, c1, rfl, hb⟩; replace hM := hM.newThing hb; clear hb) | ((with_reducible refine (HRT.out _ _ _ (ndT_in (hM.thing _ (List.Mem.head _))) hM.below).mono ?_); rintro e w1 ⟨rfl, hb⟩; replace hM := hM.step hb; clear hb) | ((with_reducible refine (HPA.out _ _ _ (ndT_in (hM.thing _ (List.Mem.head _))) hM.below).mono ?_); rintro e w1 ⟨A2, c2, rfl, hb⟩; replace hM := hM.newThing hb; clear hb) | ((first | with_reducible refine at_load ?_ | ((with_reducible refine at_load_g ?_ ?_); (· rfl))); first | refine ll hM ?_ | refine lc hM ?_ | refine lp hM ?_) | ((with_reducible refine at_store ?_); first | (refine lw hM ?_; clear hM; intro wx hM) | (refine ls hM ?_; clear hM; intro wx hM) | (refine lt hM ?_; clear hM; intro wx hM)) | ((with_reducible refine at_alloc ?_); refine lz hM ?_; clear hM; intro gx wx hM) | ((with_reducible refine at_box ?_); refine lb hM ?_; clear hM; intro gx wx hM))
          go_ret
          exact ⟨rfl, hM.below⟩
      · have q2 : (chkE n != 0) = true := by simpa using hce
        generalize (pathF leaves idx).2 = pe at HPA
        generalize (pathF leaves idx).1 = P at HPA
        generalize rootN leaves = Z at HRT
        generalize chkE n = ce at q2 HRT
        clear hr hp hn hm hT h64 h12 hl hce hpl HO2
        go_enter Tryd.func8, Tryd.ntmps8
        go_upto_region 1 with (first | (refine lb hM ?_ (cs := X) (ty := 48) (hn := HXS.out) (hty := row_claim); clear hM; intro g4 w3 hM) | ((first | with_reducible refine at_load ?_ | ((with_reducible refine at_load_g ?_ ?_); (· rfl))); first | refine ll hM ?_ | refine lc hM ?_ | refine lp hM ?_) | ((with_reducible refine at_store ?_); first | (refine lw hM ?_; clear hM; intro wx hM) | (refine ls hM ?_; clear hM; intro wx hM) | (refine lt hM ?_; clear hM; intro wx hM)) | ((with_reducible refine at_alloc ?_); refine lz hM ?_; clear hM; intro gx wx hM) | ((with_reducible refine at_box ?_); refine lb hM ?_; clear hM; intro gx wx hM))
        obtain ⟨g4', hg4⟩ := hM.name1
        subst hg4
        refine wp_region_allHM hM (HeldM [⟨g4', 48, 18, X⟩]) (by kernel_rfl) ?_
        clear hM
        intro wd hM
        have hS := HeldM.of (hM.subL (L' := [_]) (List.Sublist.refl _))
        refine wpAllH_takes [0, 1, 2, 3, 4, 5] (by kernel_rfl) (fun _ _ _ _ _ h => h) hS (by kernel_rfl) ?_
        simp only [pickOps, List.filterMap_cons, List.filterMap_nil, List.getElem?_cons_zero, List.getElem?_cons_succ]
        repeat ((with_reducible apply wpHeld_step); (· rfl); (· (intro w hSw; first | (go_simp; rfl) | ((obtain ⟨_, _, _, hM'⟩ := hSw; first | exact yields_load (C := fun _ => True) (qp hM' (hX := HXN.out)) rfl | exact yields_load (C := fun _ => True) (qc hM' (hv := HX0.out)) rfl | exact yields_load (C := fun _ => True) (qc hM' (hv := HX17.out)) rfl)))); intro K hK; go_simp; (with_reducible refine hK _ ?_); clear hK K)
        refine wpHeld_nil ?_
        refine wpAllH_one 6 rfl (by kernel_rfl) ?_
        refine lz hM ?_
        clear hM hS
        intro g8 wz hM
        have hS := HeldM.of (hM.subL (L' := [⟨g4', 48, 18, X⟩]) (List.sublist_cons_self _ _))
        refine wpList_then ⟨hS, ?_⟩
        refine wpAllH_takes [7] (by kernel_rfl) (fun _ _ _ _ _ h => h) hS (by kernel_rfl) ?_
        simp only [pickOps, List.filterMap_cons, List.filterMap_nil, List.getElem?_cons_zero, List.getElem?_cons_succ]
        repeat ((with_reducible apply wpHeld_step); (· rfl); (· (intro w hSw; first | (go_simp; rfl) | (fail))); intro K hK; go_simp; (with_reducible refine hK _ ?_); clear hK K)
        refine wpHeld_nil ?_
        refine wpAllH_one 8 rfl (by kernel_rfl) ?_
        refine lw hM ?_
        clear hM hS
        intro wy hM
        have hS := HeldM.of (hM.subL (L' := [⟨g4', 48, 18, X⟩]) (List.sublist_cons_self _ _))
        refine wpList_then ⟨hS, ?_⟩
        refine wpAllH_takes [9] (by kernel_rfl) (fun _ _ _ _ _ h => h) hS (by kernel_rfl) ?_
        simp only [pickOps, List.filterMap_cons, List.filterMap_nil, List.getElem?_cons_zero, List.getElem?_cons_succ]
        repeat ((with_reducible apply wpHeld_step); (· rfl); (· (intro w hSw; first | (go_simp; rfl) | (fail))); intro K hK; go_simp; (with_reducible refine hK _ ?_); clear hK K)
        refine wpHeld_nil ?_
        refine wpAllH_done (by kernel_rfl) ?_
        clear hS
        go_wp2_with (first | ((with_reducible refine (HK.out _ hM.below).mono ?_); rintro e w1 ⟨rfl, hb⟩; replace hM := hM.step hb; clear hb) | ((with_reducible refine (HO.out _ hM.below).mono ?_); rintro e w1 ⟨A1, c1, rfl, hb⟩; replace hM := hM.newThing hb; clear hb) | ((with_reducible refine (HRT.out _ _ _ (ndT_in (hM.thing _ (List.Mem.head _))) hM.below).mono ?_); rintro e w1 ⟨rfl, hb⟩; replace hM := hM.step hb; clear hb) | ((with_reducible refine (HPA.out _ _ _ (ndT_in (hM.thing _ (List.Mem.head _))) hM.below).mono ?_); rintro e w1 ⟨A2, c2, rfl, hb⟩; replace hM := hM.newThing hb; clear hb) | ((first | with_reducible refine at_load ?_ | ((with_reducible refine at_load_g ?_ ?_); (· rfl))); first | refine ll hM ?_ | refine lc hM ?_ | refine lp hM ?_) | ((with_reducible refine at_store ?_); first | (refine lw hM ?_; clear hM; intro wx hM) | (refine ls hM ?_; clear hM; intro wx hM) | (refine lt hM ?_; clear hM; intro wx hM)) | ((with_reducible refine at_alloc ?_); refine lz hM ?_; clear hM; intro gx wx hM) | ((with_reducible refine at_box ?_); refine lb hM ?_; clear hM; intro gx wx hM))
        go_ret
        exact ⟨rfl, hM.below⟩
end Go.Proofs.YtcfojkecmchbdaaDoor
namespace Go.Proofs.YtcfojkecmchbdaaDoor
open Go Go.RowKit Go.Bul Go.Lin Go.Thg
theorem mforged_row (A : Option Addr) (n c : Nat) (bs : List Nat) (ix : Int) (x : Nd) (B : Option Addr) (m d : Nat) (cs : List Nat) (kp : Bool) (w : World) (hr : RdArr w A n 16 bs) (hn : n ≤ c) (hc : c ≤ 9223372036854775807) (hr2 : RdArr w B m 16 cs) (hm : m ≤ d) (hd : d ≤ 9223372036854775807) (hT : Tab w) :
    Calls Tryd.prog 8 #[.slice A n c, .agg (claimC ix x B m d), .bool kp] w fun e w' => e = .returned (.bool true) ∧ Below w.heap.size w w' := by
  obtain ⟨l, hl⟩ := nin_of hr
  obtain ⟨p, hp⟩ := nin_of hr2
  exact mforged_any A n c l ix x B m d p kp w hl hp (by omega) (by omega) hT
end Go.Proofs.YtcfojkecmchbdaaDoor
