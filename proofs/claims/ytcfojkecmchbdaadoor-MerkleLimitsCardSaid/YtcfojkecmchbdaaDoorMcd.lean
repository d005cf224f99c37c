/- MerkleVerify: the walk. -/
import Derived.Test.YtcfojkecmchbdaaDoorMnh
namespace Go.Bul
open Go
theorem wpHeld_stepU {P : Program} {ops : Array Oper} {S : World → Prop} {K : Act → Prop} {a : Act} {o : Oper} {l : List Oper} (hg : Region.wanted o (yielded ops a.tmps) = false)
    (h : ∀ K' : Act → Prop, (∀ a', wpHeld P ops S K l a' → K' a') → K' (a.put o.dst undef)) : wpHeld P ops S K (o :: l) a :=
  ⟨undef, .inr ⟨hg, rfl⟩, h _ fun _ h => h⟩
end Go.Bul
namespace Go.Lin
open Go Go.Bul
def claimC (idx : Int) (x : Nd) (A : Option Addr) (m c : Nat) : Array Value := (.int .i64 idx :: (vals .u8 x.val ++ [.slice A m c])).toArray
theorem cl_size (idx : Int) (x : Nd) (A : Option Addr) (m c : Nat) : (claimC idx x A m c).size = 18 := by simp [claimC, x.len]
theorem cl_0 (idx : Int) (x : Nd) (A : Option Addr) (m c : Nat) : (claimC idx x A m c)[0]? = some (.int .i64 idx) := rfl
theorem cl_17 (idx : Int) (x : Nd) (A : Option Addr) (m c : Nat) : (claimC idx x A m c)[17]? = some (.slice A m c) := by
  have h : (vals .u8 x.val).length = 16 := by rw [vals_length, x.len]
  simp only [claimC, List.getElem?_toArray, List.getElem?_cons_succ]
  rw [List.getElem?_append_right (by omega), h]
  rfl
theorem cl_nd (idx : Int) (x : Nd) (A : Option Addr) (m c : Nat) : (claimC idx x A m c).extract 1 (1 + 16) = ndC x := by
  have h : (vals .u8 x.val).length = 16 := by rw [vals_length, x.len]
  simp [claimC, ndC, cellsOf, h]
end Go.Lin
namespace Go.Proofs.YtcfojkecmchbdaaDoor
open Go Go.RowKit Go.Bul Go.Thg Go.Lin
set_option maxRecDepth 20000 in
set_option maxHeartbeats 8000000 in
theorem mver_any (A : Option Addr) (n c : Nat) (leaves : List Nd) (idx : Int) (lf : Nd) (B : Option Addr) (m d : Nat) (path : List Nd) (w : World) (hr : NIn w A n leaves) (hp : NIn w B m path) (hn : n ≤ 9223372036854775807) (hm : m ≤ 9223372036854775807) (hT : Tab w) :
    Calls Tryd.prog 5 #[.slice A n c, .agg (claimC idx lf B m d)] w fun e w' => e = .returned (.bool true) ∧ Below w.heap.size w w' := by
  have hM := Mem.start [] w
  have HK := Lib.hid (fun w' (hb : Below w.heap.size w w') => known_any w' (hT.keep hb))
  have hX0 := cl_0 idx lf B m d
  have hX17 := cl_17 idx lf B m d
  have hXn := cl_nd idx lf B m d
  have hXs := cl_size idx lf B m d
  obtain ⟨X, hXe⟩ : ∃ X, claimC idx lf B m d = X := ⟨_, rfl⟩
  rw [hXe] at hX0 hX17 hXn hXs ⊢
  have HX0 := Lib.hid hX0
  have HX17 := Lib.hid hX17
  have HXN := Lib.hid hXn
  have HXS := Lib.hid hXs
  clear hX0 hX17 hXn hXs hXe
  by_cases h64 : 64 < n
  · have c1 : decide ((64 : Int) < (n : Int)) = true := decide_eq_true (by omega)
    have c2 : decide (64 < n) = true := decide_eq_true h64
    clear hr hp hn hm hT h64
    go_enter Tryd.func5, Tryd.ntmps5
    go_upto_region 1 with (first | (refine lb hM ?_ (cs := X) (ty := 48) (hn := HXS.out) (hty := row_claim); clear hM; intro g3 w3 hM) | ((first | with_reducible refine at_load ?_ | ((with_reducible refine at_load_g ?_ ?_); (· rfl))); first | refine ll hM ?_ | refine lc hM ?_ | refine lp hM ?_) | ((with_reducible refine at_store ?_); first | (refine lw hM ?_; clear hM; intro wx hM) | (refine ls hM ?_; clear hM; intro wx hM) | (refine lt hM ?_; clear hM; intro wx hM)) | ((with_reducible refine at_alloc ?_); refine lz hM ?_; clear hM; intro gx wx hM) | ((with_reducible refine at_box ?_); refine lb hM ?_; clear hM; intro gx wx hM))
    obtain ⟨g3', hg3⟩ := hM.name1
    subst hg3
    refine wp_region_allHM hM (HeldM [⟨g3', 48, 18, X⟩]) (by kernel_rfl) ?_
    clear hM
    intro wd hM
    have hS := HeldM.of (hM.subL (L' := [_]) (List.Sublist.refl _))
    refine wpAllH_takes [0, 1, 2, 3, 4, 5] (by kernel_rfl) (fun _ _ _ _ _ h => h) hS (by kernel_rfl) ?_
    simp only [pickOps, List.filterMap_cons, List.filterMap_nil, List.getElem?_cons_zero, List.getElem?_cons_succ]
    repeat ((with_reducible apply wpHeld_step); (· rfl); (· (intro w hSw; first | (go_simp; rfl) | ((obtain ⟨_, _, _, hM'⟩ := hSw; first | exact yields_load (C := fun _ => True) (qp hM' (hX := HXN.out)) rfl | exact yields_load (C := fun _ => True) (qc hM' (hv := HX0.out)) rfl | exact yields_load (C := fun _ => True) (qc hM' (hv := HX17.out)) rfl)))); intro K hK; go_simp; (with_reducible refine hK _ ?_); clear hK K)
    refine wpHeld_nil ?_
    refine wpAllH_one 6 rfl (by kernel_rfl) ?_
    refine lz hM ?_
    clear hM hS
    intro g5 wz hM
    have hS := HeldM.of (hM.subL (L' := [⟨g3', 48, 18, X⟩]) (List.sublist_cons_self _ _))
    refine wpList_then ⟨hS, ?_⟩
    refine wpAllH_one 7 rfl (by kernel_rfl) ?_
    refine lw hM ?_
    clear hM hS
    intro wy hM
    have hS := HeldM.of (hM.subL (L' := [⟨g3', 48, 18, X⟩]) (List.sublist_cons_self _ _))
    refine wpList_then ⟨hS, ?_⟩
    refine wpAllH_takes [8, 9] (by kernel_rfl) (fun _ _ _ _ _ h => h) hS (by kernel_rfl) ?_
    simp only [pickOps, List.filterMap_cons, List.filterMap_nil, List.getElem?_cons_zero, List.getElem?_cons_succ]
    repeat ((with_reducible apply wpHeld_step); (· rfl); (· (intro w hSw; first | (go_simp; rfl) | (fail))); intro K hK; go_simp; (with_reducible refine hK _ ?_); clear hK K)
    refine wpHeld_nil ?_
    refine wpAllH_done (by kernel_rfl) ?_
    clear hS
    go_wp2_with (first | ((with_reducible refine (HK.out _ hM.below).mono ?_); rintro e w1 ⟨rfl, hb⟩; replace hM := hM.step hb; clear hb) | ((first | with_reducible refine at_load ?_ | ((with_reducible refine at_load_g ?_ ?_); (· rfl))); first | refine ll hM ?_ | refine lc hM ?_ | refine lp hM ?_) | ((with_reducible refine at_store ?_); first | (refine lw hM ?_; clear hM; intro wx hM) | (refine ls hM ?_; clear hM; intro wx hM) | (refine lt hM ?_; clear hM; intro wx hM)) | ((with_reducible refine at_alloc ?_); refine lz hM ?_; clear hM; intro gx wx hM) | ((with_reducible refine at_box ?_); refine lb hM ?_; clear hM; intro gx wx hM))
    go_ret
    exact ⟨rfl, hM.below⟩
  · have c1 : decide ((64 : Int) < (n : Int)) = false := decide_eq_false (by omega)
    have c2 : decide (64 < n) = false := decide_eq_false h64
    by_cases h20 : 20 < m
    · have c3 : decide ((20 : Int) < (m : Int)) = true := decide_eq_true (by omega)
      have c4 : decide (20 < m) = true := decide_eq_true h20
      clear hr hp hn hm hT h64 h20
      go_enter Tryd.func5, Tryd.ntmps5
      go_upto_region 1 with (first | (refine lb hM ?_ (cs := X) (ty := 48) (hn := HXS.out) (hty := row_claim); clear hM; intro g3 w3 hM) | ((first | with_reducible refine at_load ?_ | ((with_reducible refine at_load_g ?_ ?_); (· rfl))); first | refine ll hM ?_ | refine lc hM ?_ | refine lp hM ?_) | ((with_reducible refine at_store ?_); first | (refine lw hM ?_; clear hM; intro wx hM) | (refine ls hM ?_; clear hM; intro wx hM) | (refine lt hM ?_; clear hM; intro wx hM)) | ((with_reducible refine at_alloc ?_); refine lz hM ?_; clear hM; intro gx wx hM) | ((with_reducible refine at_box ?_); refine lb hM ?_; clear hM; intro gx wx hM))
      obtain ⟨g3', hg3⟩ := hM.name1
      subst hg3
      refine wp_region_allHM hM (HeldM [⟨g3', 48, 18, X⟩]) (by kernel_rfl) ?_
      clear hM
      intro wd hM
      have hS := HeldM.of (hM.subL (L' := [_]) (List.Sublist.refl _))
      refine wpAllH_takes [0, 1, 2, 3, 4, 5] (by kernel_rfl) (fun _ _ _ _ _ h => h) hS (by kernel_rfl) ?_
      simp only [pickOps, List.filterMap_cons, List.filterMap_nil, List.getElem?_cons_zero, List.getElem?_cons_succ]
      repeat ((with_reducible apply wpHeld_step); (· rfl); (· (intro w hSw; first | (go_simp; rfl) | ((obtain ⟨_, _, _, hM'⟩ := hSw; first | exact yields_load (C := fun _ => True) (qp hM' (hX := HXN.out)) rfl | exact yields_load (C := fun _ => True) (qc hM' (hv := HX0.out)) rfl | exact yields_load (C := fun _ => True) (qc hM' (hv := HX17.out)) rfl)))); intro K hK; go_simp; (with_reducible refine hK _ ?_); clear hK K)
      refine wpHeld_nil ?_
      refine wpAllH_one 6 rfl (by kernel_rfl) ?_
      refine lz hM ?_
      clear hM hS
      intro g5 wz hM
      have hS := HeldM.of (hM.subL (L' := [⟨g3', 48, 18, X⟩]) (List.sublist_cons_self _ _))
      refine wpList_then ⟨hS, ?_⟩
      refine wpAllH_one 7 rfl (by kernel_rfl) ?_
      refine lw hM ?_
      clear hM hS
      intro wy hM
      have hS := HeldM.of (hM.subL (L' := [⟨g3', 48, 18, X⟩]) (List.sublist_cons_self _ _))
      refine wpList_then ⟨hS, ?_⟩
      refine wpAllH_takes [8, 9] (by kernel_rfl) (fun _ _ _ _ _ h => h) hS (by kernel_rfl) ?_
      simp only [pickOps, List.filterMap_cons, List.filterMap_nil, List.getElem?_cons_zero, List.getElem?_cons_succ]
      repeat ((with_reducible apply wpHeld_step); (· rfl); (· (intro w hSw; first | (go_simp; rfl) | (fail))); intro K hK; go_simp; (with_reducible refine hK _ ?_); clear hK K)
      refine wpHeld_nil ?_
      refine wpAllH_done (by kernel_rfl) ?_
      clear hS
      go_wp2_with (first | ((with_reducible refine (HK.out _ hM.below).mono ?_); rintro e w1 ⟨rfl, hb⟩; replace hM := hM.step hb; clear hb) | ((first | with_reducible refine at_load ?_ | ((with_reducible refine at_load_g ?_ ?_); (· rfl))); first | refine ll hM ?_ | refine lc hM ?_ | refine lp hM ?_) | ((with_reducible refine at_store ?_); first | (refine lw hM ?_; clear hM; intro wx hM) | (refine ls hM ?_; clear hM; intro wx hM) | (refine lt hM ?_; clear hM; intro wx hM)) | ((with_reducible refine at_alloc ?_); refine lz hM ?_; clear hM; intro gx wx hM) | ((with_reducible refine at_box ?_); refine lb hM ?_; clear hM; intro gx wx hM))
      go_ret
      exact ⟨rfl, hM.below⟩
    · have c3 : decide ((20 : Int) < (m : Int)) = false := decide_eq_false (by omega)
      have c4 : decide (20 < m) = false := decide_eq_false h20
      have hl := hr.len
      have hq := eq_nd (fromF lf idx path).1 (rootN leaves)
      have HO := Lib.hid (fun w' (hb : Below w.heap.size w w') => own_any A n c leaves w' (hr.keep hb) (by omega))
      have HO2 := Lib.hid (fun w' (hb : Below w.heap.size w w') => own_any B m d path w' (hp.keep hb) (by omega))
      have HRT := Lib.hid (fun A' c' w' (h : NIn w' A' n leaves) (hb : Below w.heap.size w w') => root_any A' n c' leaves w' h (by omega) (hT.keep hb))
      have HFR := Lib.hid (fun A' c' w' (h : NIn w' A' m path) (hb : Below w.heap.size w w') => from_any lf idx A' m c' path w' h (by omega) (hT.keep hb))
      have HPR := Lib.hid (fun w' (hb : Below w.heap.size w w') => rpairs_any lf idx B m d path w' (hp.keep hb) (by omega))
      have HVF := Lib.hid (fun A' c' w' (h : NIn w' A' m path) (hb : Below w.heap.size w w') => verify_any (rootN leaves) lf idx A' m c' path w' h (by omega) (hT.keep hb))
      have HVL : Hid (chkE n = 0 → ∀ k, k < n → ∃ h SB, SB.length = h ∧ pathF leaves (k : Int) = (SB, 0) ∧ ∀ A' c' w', NIn w' A' h SB → Below w.heap.size w w' → Calls Tryd.prog 22 #[.agg (ndC (rootN leaves)), .agg (ndC (nodeN leaves 0 k)), .int .i64 (k : Nat), .slice A' h c'] w' fun e w'' => e = .returned (.bool true) ∧ Below w'.heap.size w' w'') := Lib.hid fun hce k hk => by
        obtain ⟨h, hh, he, hlog⟩ := chkE_yes hce
        have hln : leaves.length = 2 ^ h := by omega
        refine ⟨h, sibsF leaves k h, sibsF_length _ _ _, ?_, fun A' c' w' hin hb => ?_⟩
        · unfold pathF
          rw [if_neg (by rw [← hl, hce]; decide), if_neg (by omega), ← hl, hlog]
          simp
        · have hv := verify_any (rootN leaves) (nodeN leaves 0 k) (k : Int) A' h c' (sibsF leaves k h) w' hin (by omega) (hT.keep hb)
          have hroot : rootN leaves = rootH leaves h := by unfold rootN; rw [if_pos (by rw [← hl]; exact hce), ← hl, hlog]
          have hver : verF (rootN leaves) (nodeN leaves 0 k) (k : Int) (sibsF leaves k h) = true := by
            unfold verF
            rw [path_leads leaves h k hln hh (by omega), hroot]
            simp
          rw [hver] at hv
          exact hv
      have HPA := Lib.hid (fun (i : Int) A' c' w' (h : NIn w' A' n leaves) (hb : Below w.heap.size w w') => path_any A' n c' leaves i w' h (by omega) (hT.keep hb))
      unfold verF at HVF
      obtain ⟨Z1, hZ1⟩ : ∃ z, (fromF lf idx path).1 = z := ⟨_, rfl⟩
      obtain ⟨fe, hfe0⟩ : ∃ z, (fromF lf idx path).2 = z := ⟨_, rfl⟩
      obtain ⟨Z, hZ⟩ : ∃ z, rootN leaves = z := ⟨_, rfl⟩
      obtain ⟨ce, hce0⟩ : ∃ z, chkE n = z := ⟨_, rfl⟩
      have hpel := pairsE_length lf idx path
      obtain ⟨pl, hpl⟩ : ∃ z, pairsE lf idx path = z := ⟨_, rfl⟩
      rw [hZ1, hfe0] at HFR HPR HVF
      rw [hpl] at HPR hpel
      rw [hZ1, hZ] at hq
      rw [hZ] at HRT HVF HVL
      rw [hce0] at HRT HVL
      have q1 := eq_nd Z1 Z1
      rw [decide_eq_true rfl] at q1
      obtain ⟨dz, hdz⟩ : ∃ z, decide (Z1 = Z) = z := ⟨_, rfl⟩
      rw [hdz] at hq HVF
      have HL := Lib.hid hl
      have n0 : (n : Int) ≤ 64 := by omega
      have n1 : (m : Int) ≤ 20 := by omega
      clear hr hp hn hm hT h64 h20 hl hZ1 hfe0 hZ hce0 hpl hdz
      by_cases hce : ce = 0
      · subst hce
        replace HVL := Lib.hid (HVL.out rfl)
        go_enter Tryd.func5, Tryd.ntmps5
        go_upto_region 1 with (first | (refine lb hM ?_ (cs := X) (ty := 48) (hn := HXS.out) (hty := row_claim); clear hM; intro g3 w3 hM) | ((first | with_reducible refine at_load ?_ | ((with_reducible refine at_load_g ?_ ?_); (· rfl))); first | refine ll hM ?_ | refine lc hM ?_ | refine lp hM ?_) | ((with_reducible refine at_store ?_); first | (refine lw hM ?_; clear hM; intro wx hM) | (refine ls hM ?_; clear hM; intro wx hM) | (refine lt hM ?_; clear hM; intro wx hM)) | ((with_reducible refine at_alloc ?_); refine lz hM ?_; clear hM; intro gx wx hM) | ((with_reducible refine at_box ?_); refine lb hM ?_; clear hM; intro gx wx hM))
        obtain ⟨g3', hg3⟩ := hM.name1
        subst hg3
        refine wp_region_allHM hM (HeldM [⟨g3', 48, 18, X⟩]) (by kernel_rfl) ?_
        clear hM
        intro wd hM
        have hS := HeldM.of (hM.subL (L' := [_]) (List.Sublist.refl _))
        refine wpAllH_takes [0, 1, 2, 3, 4, 5] (by kernel_rfl) (fun _ _ _ _ _ h => h) hS (by kernel_rfl) ?_
        simp only [pickOps, List.filterMap_cons, List.filterMap_nil, List.getElem?_cons_zero, List.getElem?_cons_succ]
        repeat ((with_reducible apply wpHeld_step); (· rfl); (· (intro w hSw; first | (go_simp; rfl) | ((obtain ⟨_, _, _, hM'⟩ := hSw; first | exact yields_load (C := fun _ => True) (qp hM' (hX := HXN.out)) rfl | exact yields_load (C := fun _ => True) (qc hM' (hv := HX0.out)) rfl | exact yields_load (C := fun _ => True) (qc hM' (hv := HX17.out)) rfl)))); intro K hK; go_simp; (with_reducible refine hK _ ?_); clear hK K)
        refine wpHeld_nil ?_
        refine wpAllH_one 6 rfl (by kernel_rfl) ?_
        refine lz hM ?_
        clear hM hS
        intro g5 wz hM
        have hS := HeldM.of (hM.subL (L' := [⟨g3', 48, 18, X⟩]) (List.sublist_cons_self _ _))
        refine wpList_then ⟨hS, ?_⟩
        refine wpAllH_one 7 rfl (by kernel_rfl) ?_
        refine lw hM ?_
        clear hM hS
        intro wy hM
        have hS := HeldM.of (hM.subL (L' := [⟨g3', 48, 18, X⟩]) (List.sublist_cons_self _ _))
        refine wpList_then ⟨hS, ?_⟩
        refine wpAllH_takes [8, 9] (by kernel_rfl) (fun _ _ _ _ _ h => h) hS (by kernel_rfl) ?_
        simp only [pickOps, List.filterMap_cons, List.filterMap_nil, List.getElem?_cons_zero, List.getElem?_cons_succ]
        repeat ((with_reducible apply wpHeld_step); (· rfl); (· (intro w hSw; first | (go_simp; rfl) | (fail))); intro K hK; go_simp; (with_reducible refine hK _ ?_); clear hK K)
        refine wpHeld_nil ?_
        refine wpAllH_done (by kernel_rfl) ?_
        clear hS
        go_wp2_with (first | ((with_reducible refine (HK.out _ hM.below).mono ?_); rintro e w1 ⟨rfl, hb⟩; replace hM := hM.step hb; clear hb) | ((with_reducible refine (HO.out _ hM.below).mono ?_); rintro e w1 ⟨A1, c1, rfl, hb⟩; replace hM := hM.newThing hb; clear hb) | ((with_reducible refine (HRT.out _ _ _ (ndT_in (hM.thing _ (List.Mem.head _))) hM.below).mono ?_); rintro e w1 ⟨rfl, hb⟩; replace hM := hM.step hb; clear hb) | ((first | with_reducible refine at_load ?_ | ((with_reducible refine at_load_g ?_ ?_); (· rfl))); first | refine ll hM ?_ | refine lc hM ?_ | refine lp hM ?_) | ((with_reducible refine at_store ?_); first | (refine lw hM ?_; clear hM; intro wx hM) | (refine ls hM ?_; clear hM; intro wx hM) | (refine lt hM ?_; clear hM; intro wx hM)) | ((with_reducible refine at_alloc ?_); refine lz hM ?_; clear hM; intro gx wx hM) | ((with_reducible refine at_box ?_); refine lb hM ?_; clear hM; intro gx wx hM))
        obtain ⟨g9, hg9⟩ := hM.name1
        subst hg9
        have M0 := Lib.hid hM
        clear hM
        go_loopw [11] (fun i wr => ∃ k : Nat, k ≤ n ∧ i = .int .i64 (k : Nat) ∧ Mem [] w [⟨g9, 27, 16, ndC Z⟩, ⟨g5, 24, 16, ndC lf⟩, ⟨g3', 48, 18, X⟩] [ndT (.slice A1 n c1) leaves] wr) (fun i _ => n - (intOf i).toNat)
        case atStart => exact ⟨0, by omega, rfl, M0.out⟩
        case round =>
          clear M0
          obtain ⟨k, hk, rfl, hM⟩ := hrel
          by_cases hlt : k < n
          · have hkl : k < leaves.length := by have := HL.out; omega
            obtain ⟨h, SB, hsl, hpf, hv⟩ := HVL.out k hlt
            have HPK := Lib.hid (fun A' c' w' => HPA.out (k : Int) A' c' w')
            rw [hpf] at HPK
            simp only [hsl] at HPK
            have HV := Lib.hid hv
            obtain ⟨go, oo, rfl, _, h5⟩ := (ndT_in (hM.thing _ (List.Mem.head _))).row k hkl
            have HX := Lib.hid (fun w' (h : NIn w' (some ⟨go, oo, none⟩) n leaves) => NIn.cell h k hkl)
            rw [leaf_get leaves k hkl] at HX
            generalize nodeN leaves 0 k = x at HX HV
            have q2 : (0 : Int) ≤ (k : Int) := Int.natCast_nonneg _
            have q3 : (k : Int) < (n : Int) := by omega
            clear h5 hpf hv hsl hkl
            go_upto_region 10 with (first | ((with_reducible refine (HPK.out _ _ _ (ndT_in (hM.thing _ (List.Mem.head _))) hM.below).mono ?_); rintro e w1 ⟨A2, c2', rfl, hb⟩; replace hM := hM.newThing hb; clear hb) | ((first | with_reducible refine at_load ?_ | ((with_reducible refine at_load_g ?_ ?_); (· rfl))); first | refine ll hM ?_ | refine lc hM ?_ | refine lp hM ?_) | ((with_reducible refine at_store ?_); first | (refine lw hM ?_; clear hM; intro wx hM) | (refine ls hM ?_; clear hM; intro wx hM) | (refine lt hM ?_; clear hM; intro wx hM)) | ((with_reducible refine at_alloc ?_); refine lz hM ?_; clear hM; intro gx wx hM) | ((with_reducible refine at_box ?_); refine lb hM ?_; clear hM; intro gx wx hM))
            refine Go.Bul.wp_region_class (Mem _ w _ _) (by kernel_rfl) (by kernel_rfl) hM.drew ?_
            repeat ((with_reducible refine wpQuiet_step (fun K hK => ?_)); (first | ((first | ((with_reducible refine quiet_some ?_ ?_); (· rfl)) | ((with_reducible refine quiet_wanted ?_ ?_); (· rfl))); apply Exists.intro; refine ⟨fun w' hM' => ?_, ?_⟩; (· first | (go_simp; rfl) | exact qc hM' | first | exact qr (HX.out _ (ndT_in (hM'.thing _ (List.Mem.tail _ (List.Mem.head _))))) | (go_simp; with_reducible refine at_calls ?_; exact quiet_mem_call hM' (HV.out _ _ _ (ndT_in (hM'.thing _ (List.Mem.head _))) hM'.below)) | exact ql hM' | exact qp hM')) | ((with_reducible refine quiet_unwanted ?_ ?_); (· rfl))); go_simp; (with_reducible refine hK _ ?_); clear hK K)
            refine wpQuiet_nil ?_
            intro wx hM
            go_wp2_with fail
            exact ⟨⟨k + 1, by omega, by go_num, hM.subR (List.sublist_cons_self _ _)⟩, by simp [intOf]; omega⟩
          · obtain rfl : k = n := by omega
            clear hlt hk
            go_upto_region 12 with fail
            refine wp_region_allHM hM (HeldM [⟨g5, 24, 16, ndC lf⟩]) (by kernel_rfl) ?_
            clear hM
            intro wd hM
            have hS := HeldM.of (hM.subL (L' := [⟨g5, 24, 16, ndC lf⟩]) (List.Sublist.cons _ (List.Sublist.cons_cons _ (List.nil_sublist _))))
            refine wpAllH_takes [0, 1, 2] (by kernel_rfl) (fun _ _ _ _ _ h => h) hS (by kernel_rfl) ?_
            simp only [pickOps, List.filterMap_cons, List.filterMap_nil, List.getElem?_cons_zero, List.getElem?_cons_succ]
            repeat ((with_reducible apply wpHeld_step); (· rfl); (· (intro w hSw; first | (go_simp; rfl) | ((obtain ⟨_, _, _, hM'⟩ := hSw; exact yields_load (C := fun _ => True) (ql hM') rfl)))); intro K hK; go_simp; (with_reducible refine hK _ ?_); clear hK K)
            refine wpHeld_nil ?_
            refine wpAllH_two 3 8 rfl rfl (by kernel_rfl) ?_ ?_
            · go_wp2_with fail
              refine (HO2.out _ hM.below).mono ?_
              rintro e w1 ⟨A3, c3, rfl, hb⟩
              replace hM := hM.newThing hb
              clear hb hS
              have hS := HeldM.of (hM.subL (L' := [⟨g5, 24, 16, ndC lf⟩]) (List.Sublist.cons _ (List.Sublist.cons_cons _ (List.nil_sublist _))))
              go_wp2_with fail
              refine then_normal ⟨hS, ?_⟩
              refine wpAllH_two 4 8 rfl rfl (by kernel_rfl) ?_ ?_
              · go_wp2_with fail
                refine (HFR.out _ _ _ (ndT_in (hM.thing _ (List.Mem.head _))) hM.below).mono ?_
                rintro e w1 ⟨rfl, hb⟩
                replace hM := hM.step hb
                clear hb hS
                have hS := HeldM.of (hM.subL (L' := [⟨g5, 24, 16, ndC lf⟩]) (List.Sublist.cons _ (List.Sublist.cons_cons _ (List.nil_sublist _))))
                go_wp2_with fail
                refine then_normal ⟨hS, ?_⟩
                refine wpAllH_takes [5, 6, 7] (by kernel_rfl) (fun _ _ _ _ _ h => h) hS (by kernel_rfl) ?_
                simp only [pickOps, List.filterMap_cons, List.filterMap_nil, List.getElem?_cons_zero, List.getElem?_cons_succ]
                repeat ((with_reducible apply wpHeld_step); (· rfl); (· (intro w hSw; first | (go_simp; rfl) | (fail))); intro K hK; go_simp; (with_reducible refine hK _ ?_); clear hK K)
                refine wpHeld_nil ?_
                refine wpAllH_one 8 rfl (by kernel_rfl) ?_
                refine lz hM ?_
                clear hM hS
                intro g14 wz hM
                have hS := HeldM.of (hM.subL (L' := [⟨g5, 24, 16, ndC lf⟩]) (List.Sublist.cons _ (List.Sublist.cons _ (List.Sublist.cons_cons _ (List.nil_sublist _)))))
                refine wpList_then ⟨hS, ?_⟩
                refine wpAllH_one 9 rfl (by kernel_rfl) ?_
                refine lw hM ?_
                clear hM hS
                intro wy hM
                have hS := HeldM.of (hM.subL (L' := [⟨g5, 24, 16, ndC lf⟩]) (List.Sublist.cons _ (List.Sublist.cons _ (List.Sublist.cons_cons _ (List.nil_sublist _)))))
                refine wpList_then ⟨hS, ?_⟩
                refine wpAllH_takes [10] (by kernel_rfl) (fun _ _ _ _ _ h => h) hS (by kernel_rfl) ?_
                simp only [pickOps, List.filterMap_cons, List.filterMap_nil, List.getElem?_cons_zero, List.getElem?_cons_succ]
                repeat ((with_reducible apply wpHeld_step); (· rfl); (· (intro w hSw; first | (go_simp; rfl) | (fail))); intro K hK; go_simp; (with_reducible refine hK _ ?_); clear hK K)
                refine wpHeld_nil ?_
                refine wpAllH_done (by kernel_rfl) ?_
                clear hS
                go_upto_region 16 with (first | ((with_reducible refine (HPR.out _ hM.below).mono ?_); rintro e w1 ⟨A4, c4', rfl, hb⟩; replace hM := hM.newThing hb; clear hb) | ((first | with_reducible refine at_load ?_ | ((with_reducible refine at_load_g ?_ ?_); (· rfl))); first | refine ll hM ?_ | refine lc hM ?_ | refine lp hM ?_) | ((with_reducible refine at_store ?_); first | (refine lw hM ?_; clear hM; intro wx hM) | (refine ls hM ?_; clear hM; intro wx hM) | (refine lt hM ?_; clear hM; intro wx hM)) | ((with_reducible refine at_alloc ?_); refine lz hM ?_; clear hM; intro gx wx hM) | ((with_reducible refine at_box ?_); refine lb hM ?_; clear hM; intro gx wx hM))
                obtain ⟨g17, hg17⟩ := hM.name1
                subst hg17
                cases hfe : (fe == 0)
                · rw [hfe] at HVF
                  refine wp_region_allHM hM (HeldM [⟨g17, 24, 16, ndC Z1⟩, ⟨g14, 27, 16, ndC Z1⟩, ⟨g9, 27, 16, ndC Z⟩, ⟨g5, 24, 16, ndC lf⟩]) (by kernel_rfl) ?_
                  clear hM
                  intro wd hM
                  have hS := HeldM.of (hM.subL (L' := [_, _, _, _]) (List.Sublist.cons_cons _ (List.Sublist.cons_cons _ (List.Sublist.cons_cons _ (List.Sublist.cons_cons _ (List.nil_sublist _))))))
                  refine wpAllH_takes [0, 1, 2, 3, 6, 7] (by kernel_rfl) (fun _ _ _ _ _ h => h) hS (by kernel_rfl) ?_
                  simp only [pickOps, List.filterMap_cons, List.filterMap_nil, List.getElem?_cons_zero, List.getElem?_cons_succ]
                  repeat (first | ((with_reducible apply wpHeld_stepG); (· rfl); (· (intro w hSw; first | (go_simp; rfl) | ((obtain ⟨_, _, _, hM'⟩ := hSw; exact yields_load (C := fun _ => True) (ql hM') rfl)))); intro K hK; go_simp; (with_reducible refine hK _ ?_); clear hK K) | ((with_reducible apply wpHeld_stepU); (· rfl); intro K hK; go_simp; (with_reducible refine hK _ ?_); clear hK K))
                  refine wpHeld_nil ?_
                  refine wpAllH_one 4 rfl (by kernel_rfl) ?_
                  go_wp2_with fail
                  refine (HO2.out _ hM.below).mono ?_
                  rintro e w1 ⟨A3, c3, rfl, hb⟩
                  replace hM := hM.newThing hb
                  clear hb hS
                  have hS := HeldM.of (hM.subL (L' := [_, _, _, _]) (List.Sublist.cons_cons _ (List.Sublist.cons_cons _ (List.Sublist.cons_cons _ (List.Sublist.cons_cons _ (List.nil_sublist _))))))
                  go_wp2_with fail
                  refine then_normal ⟨hS, ?_⟩
                  refine wpAllH_one 5 rfl (by kernel_rfl) ?_
                  go_wp2_with fail
                  refine (HVF.out _ _ _ (ndT_in (hM.thing _ (List.Mem.head _))) hM.below).mono ?_
                  rintro e w1 ⟨rfl, hb⟩
                  replace hM := hM.step hb
                  clear hb hS
                  have hS := HeldM.of (hM.subL (L' := [_, _, _, _]) (List.Sublist.cons_cons _ (List.Sublist.cons_cons _ (List.Sublist.cons_cons _ (List.Sublist.cons_cons _ (List.nil_sublist _))))))
                  go_wp2_with fail
                  refine then_normal ⟨hS, ?_⟩
                  refine wpAllH_takes [8, 9, 10, 11, 12, 13, 14] (by kernel_rfl) (fun _ _ _ _ _ h => h) hS (by kernel_rfl) ?_
                  simp only [pickOps, List.filterMap_cons, List.filterMap_nil, List.getElem?_cons_zero, List.getElem?_cons_succ]
                  repeat (first | ((with_reducible apply wpHeld_stepG); (· rfl); (· (intro w hSw; first | (go_simp; rfl) | ((obtain ⟨_, _, _, hM'⟩ := hSw; exact yields_load (C := fun _ => True) (ql hM') rfl)))); intro K hK; go_simp; (with_reducible refine hK _ ?_); clear hK K) | ((with_reducible apply wpHeld_stepU); (· rfl); intro K hK; go_simp; (with_reducible refine hK _ ?_); clear hK K))
                  refine wpHeld_nil ?_
                  refine wpAllH_done (by kernel_rfl) ?_
                  go_wp2_with fail
                  go_ret
                  exact ⟨rfl, hM.below⟩
                · rw [hfe] at HVF
                  refine wp_region_allHM hM (HeldM [⟨g17, 24, 16, ndC Z1⟩, ⟨g14, 27, 16, ndC Z1⟩, ⟨g9, 27, 16, ndC Z⟩, ⟨g5, 24, 16, ndC lf⟩]) (by kernel_rfl) ?_
                  clear hM
                  intro wd hM
                  have hS := HeldM.of (hM.subL (L' := [_, _, _, _]) (List.Sublist.cons_cons _ (List.Sublist.cons_cons _ (List.Sublist.cons_cons _ (List.Sublist.cons_cons _ (List.nil_sublist _))))))
                  refine wpAllH_takes [0, 1, 2, 3, 6, 7] (by kernel_rfl) (fun _ _ _ _ _ h => h) hS (by kernel_rfl) ?_
                  simp only [pickOps, List.filterMap_cons, List.filterMap_nil, List.getElem?_cons_zero, List.getElem?_cons_succ]
                  repeat (first | ((with_reducible apply wpHeld_stepG); (· rfl); (· (intro w hSw; first | (go_simp; rfl) | ((obtain ⟨_, _, _, hM'⟩ := hSw; exact yields_load (C := fun _ => True) (ql hM') rfl)))); intro K hK; go_simp; (with_reducible refine hK _ ?_); clear hK K) | ((with_reducible apply wpHeld_stepU); (· rfl); intro K hK; go_simp; (with_reducible refine hK _ ?_); clear hK K))
                  refine wpHeld_nil ?_
                  refine wpAllH_one 4 rfl (by kernel_rfl) ?_
                  go_wp2_with fail
                  refine (HO2.out _ hM.below).mono ?_
                  rintro e w1 ⟨A3, c3, rfl, hb⟩
                  replace hM := hM.newThing hb
                  clear hb hS
                  have hS := HeldM.of (hM.subL (L' := [_, _, _, _]) (List.Sublist.cons_cons _ (List.Sublist.cons_cons _ (List.Sublist.cons_cons _ (List.Sublist.cons_cons _ (List.nil_sublist _))))))
                  go_wp2_with fail
                  refine then_normal ⟨hS, ?_⟩
                  refine wpAllH_one 5 rfl (by kernel_rfl) ?_
                  go_wp2_with fail
                  refine (HVF.out _ _ _ (ndT_in (hM.thing _ (List.Mem.head _))) hM.below).mono ?_
                  rintro e w1 ⟨rfl, hb⟩
                  replace hM := hM.step hb
                  clear hb hS
                  have hS := HeldM.of (hM.subL (L' := [_, _, _, _]) (List.Sublist.cons_cons _ (List.Sublist.cons_cons _ (List.Sublist.cons_cons _ (List.Sublist.cons_cons _ (List.nil_sublist _))))))
                  go_wp2_with fail
                  refine then_normal ⟨hS, ?_⟩
                  refine wpAllH_takes [8, 9, 10, 11, 12, 13, 14] (by kernel_rfl) (fun _ _ _ _ _ h => h) hS (by kernel_rfl) ?_
                  simp only [pickOps, List.filterMap_cons, List.filterMap_nil, List.getElem?_cons_zero, List.getElem?_cons_succ]
                  repeat (first | ((with_reducible apply wpHeld_stepG); (· rfl); (· (intro w hSw; first | (go_simp; rfl) | ((obtain ⟨_, _, _, hM'⟩ := hSw; exact yields_load (C := fun _ => True) (ql hM') rfl)))); intro K hK; go_simp; (with_reducible refine hK _ ?_); clear hK K) | ((with_reducible apply wpHeld_stepU); (· rfl); intro K hK; go_simp; (with_reducible refine hK _ ?_); clear hK K))
                  refine wpHeld_nil ?_
                  refine wpAllH_done (by kernel_rfl) ?_
                  go_wp2_with fail
                  go_ret
                  exact ⟨rfl, hM.below⟩
              · refine lz hM ?_
                clear hM hS
                intro g14 wz hM
                have hS := HeldM.of (hM.subL (L' := [⟨g5, 24, 16, ndC lf⟩]) (List.Sublist.cons _ (List.Sublist.cons _ (List.Sublist.cons_cons _ (List.nil_sublist _)))))
                refine wpList_then ⟨hS, ?_⟩
                refine wpAllH_one 4 rfl (by kernel_rfl) ?_
                go_wp2_with fail
                refine (HFR.out _ _ _ (ndT_in (hM.thing _ (List.Mem.head _))) hM.below).mono ?_
                rintro e w1 ⟨rfl, hb⟩
                replace hM := hM.step hb
                clear hb hS
                have hS := HeldM.of (hM.subL (L' := [⟨g5, 24, 16, ndC lf⟩]) (List.Sublist.cons _ (List.Sublist.cons _ (List.Sublist.cons_cons _ (List.nil_sublist _)))))
                go_wp2_with fail
                refine then_normal ⟨hS, ?_⟩
                refine wpAllH_takes [5, 6, 7] (by kernel_rfl) (fun _ _ _ _ _ h => h) hS (by kernel_rfl) ?_
                simp only [pickOps, List.filterMap_cons, List.filterMap_nil, List.getElem?_cons_zero, List.getElem?_cons_succ]
                repeat ((with_reducible apply wpHeld_step); (· rfl); (· (intro w hSw; first | (go_simp; rfl) | (fail))); intro K hK; go_simp; (with_reducible refine hK _ ?_); clear hK K)
                refine wpHeld_nil ?_
                refine wpAllH_one 9 rfl (by kernel_rfl) ?_
                refine lw hM ?_
                clear hM hS
                intro wy hM
                have hS := HeldM.of (hM.subL (L' := [⟨g5, 24, 16, ndC lf⟩]) (List.Sublist.cons _ (List.Sublist.cons _ (List.Sublist.cons_cons _ (List.nil_sublist _)))))
                refine wpList_then ⟨hS, ?_⟩
                refine wpAllH_takes [10] (by kernel_rfl) (fun _ _ _ _ _ h => h) hS (by kernel_rfl) ?_
                simp only [pickOps, List.filterMap_cons, List.filterMap_nil, List.getElem?_cons_zero, List.getElem?_cons_succ]
                repeat ((with_reducible apply wpHeld_step); (· rfl); (· (intro w hSw; first | (go_simp; rfl) | (fail))); intro K hK; go_simp; (with_reducible refine hK _ ?_); clear hK K)
                refine wpHeld_nil ?_
                refine wpAllH_done (by kernel_rfl) ?_
                clear hS
                go_upto_region 16 with (first | ((with_reducible refine (HPR.out _ hM.below).mono ?_); rintro e w1 ⟨A4, c4', rfl, hb⟩; replace hM := hM.newThing hb; clear hb) | ((first | with_reducible refine at_load ?_ | ((with_reducible refine at_load_g ?_ ?_); (· rfl))); first | refine ll hM ?_ | refine lc hM ?_ | refine lp hM ?_) | ((with_reducible refine at_store ?_); first | (refine lw hM ?_; clear hM; intro wx hM) | (refine ls hM ?_; clear hM; intro wx hM) | (refine lt hM ?_; clear hM; intro wx hM)) | ((with_reducible refine at_alloc ?_); refine lz hM ?_; clear hM; intro gx wx hM) | ((with_reducible refine at_box ?_); refine lb hM ?_; clear hM; intro gx wx hM))
                obtain ⟨g17, hg17⟩ := hM.name1
                subst hg17
                cases hfe : (fe == 0)
                · rw [hfe] at HVF
                  refine wp_region_allHM hM (HeldM [⟨g17, 24, 16, ndC Z1⟩, ⟨g14, 27, 16, ndC Z1⟩, ⟨g9, 27, 16, ndC Z⟩, ⟨g5, 24, 16, ndC lf⟩]) (by kernel_rfl) ?_
                  clear hM
                  intro wd hM
                  have hS := HeldM.of (hM.subL (L' := [_, _, _, _]) (List.Sublist.cons_cons _ (List.Sublist.cons_cons _ (List.Sublist.cons_cons _ (List.Sublist.cons_cons _ (List.nil_sublist _))))))
                  refine wpAllH_takes [0, 1, 2, 3, 6, 7] (by kernel_rfl) (fun _ _ _ _ _ h => h) hS (by kernel_rfl) ?_
                  simp only [pickOps, List.filterMap_cons, List.filterMap_nil, List.getElem?_cons_zero, List.getElem?_cons_succ]
                  repeat (first | ((with_reducible apply wpHeld_stepG); (· rfl); (· (intro w hSw; first | (go_simp; rfl) | ((obtain ⟨_, _, _, hM'⟩ := hSw; exact yields_load (C := fun _ => True) (ql hM') rfl)))); intro K hK; go_simp; (with_reducible refine hK _ ?_); clear hK K) | ((with_reducible apply wpHeld_stepU); (· rfl); intro K hK; go_simp; (with_reducible refine hK _ ?_); clear hK K))
                  refine wpHeld_nil ?_
                  refine wpAllH_one 4 rfl (by kernel_rfl) ?_
                  go_wp2_with fail
                  refine (HO2.out _ hM.below).mono ?_
                  rintro e w1 ⟨A3, c3, rfl, hb⟩
                  replace hM := hM.newThing hb
                  clear hb hS
                  have hS := HeldM.of (hM.subL (L' := [_, _, _, _]) (List.Sublist.cons_cons _ (List.Sublist.cons_cons _ (List.Sublist.cons_cons _ (List.Sublist.cons_cons _ (List.nil_sublist _))))))
                  go_wp2_with fail
                  refine then_normal ⟨hS, ?_⟩
                  refine wpAllH_one 5 rfl (by kernel_rfl) ?_
                  go_wp2_with fail
                  refine (HVF.out _ _ _ (ndT_in (hM.thing _ (List.Mem.head _))) hM.below).mono ?_
                  rintro e w1 ⟨rfl, hb⟩
                  replace hM := hM.step hb
                  clear hb hS
                  have hS := HeldM.of (hM.subL (L' := [_, _, _, _]) (List.Sublist.cons_cons _ (List.Sublist.cons_cons _ (List.Sublist.cons_cons _ (List.Sublist.cons_cons _ (List.nil_sublist _))))))
                  go_wp2_with fail
                  refine then_normal ⟨hS, ?_⟩
                  refine wpAllH_takes [8, 9, 10, 11, 12, 13, 14] (by kernel_rfl) (fun _ _ _ _ _ h => h) hS (by kernel_rfl) ?_
                  simp only [pickOps, List.filterMap_cons, List.filterMap_nil, List.getElem?_cons_zero, List.getElem?_cons_succ]
                  repeat (first | ((with_reducible apply wpHeld_stepG); (· rfl); (· (intro w hSw; first | (go_simp; rfl) | ((obtain ⟨_, _, _, hM'⟩ := hSw; exact yields_load (C := fun _ => True) (ql hM') rfl)))); intro K hK; go_simp; (with_reducible refine hK _ ?_); clear hK K) | ((with_reducible apply wpHeld_stepU); (· rfl); intro K hK; go_simp; (with_reducible refine hK _ ?_); clear hK K))
                  refine wpHeld_nil ?_
                  refine wpAllH_done (by kernel_rfl) ?_
                  go_wp2_with fail
                  go_ret
                  exact ⟨rfl, hM.below⟩
                · rw [hfe] at HVF
                  refine wp_region_allHM hM (HeldM [⟨g17, 24, 16, ndC Z1⟩, ⟨g14, 27, 16, ndC Z1⟩, ⟨g9, 27, 16, ndC Z⟩, ⟨g5, 24, 16, ndC lf⟩]) (by kernel_rfl) ?_
                  clear hM
                  intro wd hM
                  have hS := HeldM.of (hM.subL (L' := [_, _, _, _]) (List.Sublist.cons_cons _ (List.Sublist.cons_cons _ (List.Sublist.cons_cons _ (List.Sublist.cons_cons _ (List.nil_sublist _))))))
                  refine wpAllH_takes [0, 1, 2, 3, 6, 7] (by kernel_rfl) (fun _ _ _ _ _ h => h) hS (by kernel_rfl) ?_
                  simp only [pickOps, List.filterMap_cons, List.filterMap_nil, List.getElem?_cons_zero, List.getElem?_cons_succ]
                  repeat (first | ((with_reducible apply wpHeld_stepG); (· rfl); (· (intro w hSw; first | (go_simp; rfl) | ((obtain ⟨_, _, _, hM'⟩ := hSw; exact yields_load (C := fun _ => True) (ql hM') rfl)))); intro K hK; go_simp; (with_reducible refine hK _ ?_); clear hK K) | ((with_reducible apply wpHeld_stepU); (· rfl); intro K hK; go_simp; (with_reducible refine hK _ ?_); clear hK K))
                  refine wpHeld_nil ?_
                  refine wpAllH_one 4 rfl (by kernel_rfl) ?_
                  go_wp2_with fail
                  refine (HO2.out _ hM.below).mono ?_
                  rintro e w1 ⟨A3, c3, rfl, hb⟩
                  replace hM := hM.newThing hb
                  clear hb hS
                  have hS := HeldM.of (hM.subL (L' := [_, _, _, _]) (List.Sublist.cons_cons _ (List.Sublist.cons_cons _ (List.Sublist.cons_cons _ (List.Sublist.cons_cons _ (List.nil_sublist _))))))
                  go_wp2_with fail
                  refine then_normal ⟨hS, ?_⟩
                  refine wpAllH_one 5 rfl (by kernel_rfl) ?_
                  go_wp2_with fail
                  refine (HVF.out _ _ _ (ndT_in (hM.thing _ (List.Mem.head _))) hM.below).mono ?_
                  rintro e w1 ⟨rfl, hb⟩
                  replace hM := hM.step hb
                  clear hb hS
                  have hS := HeldM.of (hM.subL (L' := [_, _, _, _]) (List.Sublist.cons_cons _ (List.Sublist.cons_cons _ (List.Sublist.cons_cons _ (List.Sublist.cons_cons _ (List.nil_sublist _))))))
                  go_wp2_with fail
                  refine then_normal ⟨hS, ?_⟩
                  refine wpAllH_takes [8, 9, 10, 11, 12, 13, 14] (by kernel_rfl) (fun _ _ _ _ _ h => h) hS (by kernel_rfl) ?_
                  simp only [pickOps, List.filterMap_cons, List.filterMap_nil, List.getElem?_cons_zero, List.getElem?_cons_succ]
                  repeat (first | ((with_reducible apply wpHeld_stepG); (· rfl); (· (intro w hSw; first | (go_simp; rfl) | ((obtain ⟨_, _, _, hM'⟩ := hSw; exact yields_load (C := fun _ => True) (ql hM') rfl)))); intro K hK; go_simp; (with_reducible refine hK _ ?_); clear hK K) | ((with_reducible apply wpHeld_stepU); (· rfl); intro K hK; go_simp; (with_reducible refine hK _ ?_); clear hK K))
                  refine wpHeld_nil ?_
                  refine wpAllH_done (by kernel_rfl) ?_
                  go_wp2_with fail
                  go_ret
                  exact ⟨rfl, hM.below⟩
            · refine lz hM ?_
              clear hM hS
              intro g14 wz hM
              have hS := HeldM.of (hM.subL (L' := [⟨g5, 24, 16, ndC lf⟩]) (List.Sublist.cons _ (List.Sublist.cons _ (List.Sublist.cons_cons _ (List.nil_sublist _)))))
              refine wpList_then ⟨hS, ?_⟩
              refine wpAllH_one 3 rfl (by kernel_rfl) ?_
              go_wp2_with fail
              refine (HO2.out _ hM.below).mono ?_
              rintro e w1 ⟨A3, c3, rfl, hb⟩
              replace hM := hM.newThing hb
              clear hb hS
              have hS := HeldM.of (hM.subL (L' := [⟨g5, 24, 16, ndC lf⟩]) (List.Sublist.cons _ (List.Sublist.cons _ (List.Sublist.cons_cons _ (List.nil_sublist _)))))
              go_wp2_with fail
              refine then_normal ⟨hS, ?_⟩
              refine wpAllH_one 4 rfl (by kernel_rfl) ?_
              go_wp2_with fail
              refine (HFR.out _ _ _ (ndT_in (hM.thing _ (List.Mem.head _))) hM.below).mono ?_
              rintro e w1 ⟨rfl, hb⟩
              replace hM := hM.step hb
              clear hb hS
              have hS := HeldM.of (hM.subL (L' := [⟨g5, 24, 16, ndC lf⟩]) (List.Sublist.cons _ (List.Sublist.cons _ (List.Sublist.cons_cons _ (List.nil_sublist _)))))
              go_wp2_with fail
              refine then_normal ⟨hS, ?_⟩
              refine wpAllH_takes [5, 6, 7] (by kernel_rfl) (fun _ _ _ _ _ h => h) hS (by kernel_rfl) ?_
              simp only [pickOps, List.filterMap_cons, List.filterMap_nil, List.getElem?_cons_zero, List.getElem?_cons_succ]
              repeat ((with_reducible apply wpHeld_step); (· rfl); (· (intro w hSw; first | (go_simp; rfl) | (fail))); intro K hK; go_simp; (with_reducible refine hK _ ?_); clear hK K)
              refine wpHeld_nil ?_
              refine wpAllH_one 9 rfl (by kernel_rfl) ?_
              refine lw hM ?_
              clear hM hS
              intro wy hM
              have hS := HeldM.of (hM.subL (L' := [⟨g5, 24, 16, ndC lf⟩]) (List.Sublist.cons _ (List.Sublist.cons _ (List.Sublist.cons_cons _ (List.nil_sublist _)))))
              refine wpList_then ⟨hS, ?_⟩
              refine wpAllH_takes [10] (by kernel_rfl) (fun _ _ _ _ _ h => h) hS (by kernel_rfl) ?_
              simp only [pickOps, List.filterMap_cons, List.filterMap_nil, List.getElem?_cons_zero, List.getElem?_cons_succ]
              repeat ((with_reducible apply wpHeld_step); (· rfl); (· (intro w hSw; first | (go_simp; rfl) | (fail))); intro K hK; go_simp; (with_reducible refine hK _ ?_); clear hK K)
              refine wpHeld_nil ?_
              refine wpAllH_done (by kernel_rfl) ?_
              clear hS
              go_upto_region 16 with (first | ((with_reducible refine (HPR.out _ hM.below).mono ?_); rintro e w1 ⟨A4, c4', rfl, hb⟩; replace hM := hM.newThing hb; clear hb) | ((first | with_reducible refine at_load ?_ | ((with_reducible refine at_load_g ?_ ?_); (· rfl))); first | refine ll hM ?_ | refine lc hM ?_ | refine lp hM ?_) | ((with_reducible refine at_store ?_); first | (refine lw hM ?_; clear hM; intro wx hM) | (refine ls hM ?_; clear hM; intro wx hM) | (refine lt hM ?_; clear hM; intro wx hM)) | ((with_reducible refine at_alloc ?_); refine lz hM ?_; clear hM; intro gx wx hM) | ((with_reducible refine at_box ?_); refine lb hM ?_; clear hM; intro gx wx hM))
              obtain ⟨g17, hg17⟩ := hM.name1
              subst hg17
              cases hfe : (fe == 0)
              · rw [hfe] at HVF
                refine wp_region_allHM hM (HeldM [⟨g17, 24, 16, ndC Z1⟩, ⟨g14, 27, 16, ndC Z1⟩, ⟨g9, 27, 16, ndC Z⟩, ⟨g5, 24, 16, ndC lf⟩]) (by kernel_rfl) ?_
                clear hM
                intro wd hM
                have hS := HeldM.of (hM.subL (L' := [_, _, _, _]) (List.Sublist.cons_cons _ (List.Sublist.cons_cons _ (List.Sublist.cons_cons _ (List.Sublist.cons_cons _ (List.nil_sublist _))))))
                refine wpAllH_takes [0, 1, 2, 3, 6, 7] (by kernel_rfl) (fun _ _ _ _ _ h => h) hS (by kernel_rfl) ?_
                simp only [pickOps, List.filterMap_cons, List.filterMap_nil, List.getElem?_cons_zero, List.getElem?_cons_succ]
                repeat (first | ((with_reducible apply wpHeld_stepG); (· rfl); (· (intro w hSw; first | (go_simp; rfl) | ((obtain ⟨_, _, _, hM'⟩ := hSw; exact yields_load (C := fun _ => True) (ql hM') rfl)))); intro K hK; go_simp; (with_reducible refine hK _ ?_); clear hK K) | ((with_reducible apply wpHeld_stepU); (· rfl); intro K hK; go_simp; (with_reducible refine hK _ ?_); clear hK K))
                refine wpHeld_nil ?_
                refine wpAllH_one 4 rfl (by kernel_rfl) ?_
                go_wp2_with fail
                refine (HO2.out _ hM.below).mono ?_
                rintro e w1 ⟨A3, c3, rfl, hb⟩
                replace hM := hM.newThing hb
                clear hb hS
                have hS := HeldM.of (hM.subL (L' := [_, _, _, _]) (List.Sublist.cons_cons _ (List.Sublist.cons_cons _ (List.Sublist.cons_cons _ (List.Sublist.cons_cons _ (List.nil_sublist _))))))
                go_wp2_with fail
                refine then_normal ⟨hS, ?_⟩
                refine wpAllH_one 5 rfl (by kernel_rfl) ?_
                go_wp2_with fail
                refine (HVF.out _ _ _ (ndT_in (hM.thing _ (List.Mem.head _))) hM.below).mono ?_
                rintro e w1 ⟨rfl, hb⟩
                replace hM := hM.step hb
                clear hb hS
                have hS := HeldM.of (hM.subL (L' := [_, _, _, _]) (List.Sublist.cons_cons _ (List.Sublist.cons_cons _ (List.Sublist.cons_cons _ (List.Sublist.cons_cons _ (List.nil_sublist _))))))
                go_wp2_with fail
                refine then_normal ⟨hS, ?_⟩
                refine wpAllH_takes [8, 9, 10, 11, 12, 13, 14] (by kernel_rfl) (fun _ _ _ _ _ h => h) hS (by kernel_rfl) ?_
                simp only [pickOps, List.filterMap_cons, List.filterMap_nil, List.getElem?_cons_zero, List.getElem?_cons_succ]
                repeat (first | ((with_reducible apply wpHeld_stepG); (· rfl); (· (intro w hSw; first | (go_simp; rfl) | ((obtain ⟨_, _, _, hM'⟩ := hSw; exact yields_load (C := fun _ => True) (ql hM') rfl)))); intro K hK; go_simp; (with_reducible refine hK _ ?_); clear hK K) | ((with_reducible apply wpHeld_stepU); (· rfl); intro K hK; go_simp; (with_reducible refine hK _ ?_); clear hK K))
                refine wpHeld_nil ?_
                refine wpAllH_done (by kernel_rfl) ?_
                go_wp2_with fail
                go_ret
                exact ⟨rfl, hM.below⟩
              · rw [hfe] at HVF
                refine wp_region_allHM hM (HeldM [⟨g17, 24, 16, ndC Z1⟩, ⟨g14, 27, 16, ndC Z1⟩, ⟨g9, 27, 16, ndC Z⟩, ⟨g5, 24, 16, ndC lf⟩]) (by kernel_rfl) ?_
                clear hM
                intro wd hM
                have hS := HeldM.of (hM.subL (L' := [_, _, _, _]) (List.Sublist.cons_cons _ (List.Sublist.cons_cons _ (List.Sublist.cons_cons _ (List.Sublist.cons_cons _ (List.nil_sublist _))))))
                refine wpAllH_takes [0, 1, 2, 3, 6, 7] (by kernel_rfl) (fun _ _ _ _ _ h => h) hS (by kernel_rfl) ?_
                simp only [pickOps, List.filterMap_cons, List.filterMap_nil, List.getElem?_cons_zero, List.getElem?_cons_succ]
                repeat (first | ((with_reducible apply wpHeld_stepG); (· rfl); (· (intro w hSw; first | (go_simp; rfl) | ((obtain ⟨_, _, _, hM'⟩ := hSw; exact yields_load (C := fun _ => True) (ql hM') rfl)))); intro K hK; go_simp; (with_reducible refine hK _ ?_); clear hK K) | ((with_reducible apply wpHeld_stepU); (· rfl); intro K hK; go_simp; (with_reducible refine hK _ ?_); clear hK K))
                refine wpHeld_nil ?_
                refine wpAllH_one 4 rfl (by kernel_rfl) ?_
                go_wp2_with fail
                refine (HO2.out _ hM.below).mono ?_
                rintro e w1 ⟨A3, c3, rfl, hb⟩
                replace hM := hM.newThing hb
                clear hb hS
                have hS := HeldM.of (hM.subL (L' := [_, _, _, _]) (List.Sublist.cons_cons _ (List.Sublist.cons_cons _ (List.Sublist.cons_cons _ (List.Sublist.cons_cons _ (List.nil_sublist _))))))
                go_wp2_with fail
                refine then_normal ⟨hS, ?_⟩
                refine wpAllH_one 5 rfl (by kernel_rfl) ?_
                go_wp2_with fail
                refine (HVF.out _ _ _ (ndT_in (hM.thing _ (List.Mem.head _))) hM.below).mono ?_
                rintro e w1 ⟨rfl, hb⟩
                replace hM := hM.step hb
                clear hb hS
                have hS := HeldM.of (hM.subL (L' := [_, _, _, _]) (List.Sublist.cons_cons _ (List.Sublist.cons_cons _ (List.Sublist.cons_cons _ (List.Sublist.cons_cons _ (List.nil_sublist _))))))
                go_wp2_with fail
                refine then_normal ⟨hS, ?_⟩
                refine wpAllH_takes [8, 9, 10, 11, 12, 13, 14] (by kernel_rfl) (fun _ _ _ _ _ h => h) hS (by kernel_rfl) ?_
                simp only [pickOps, List.filterMap_cons, List.filterMap_nil, List.getElem?_cons_zero, List.getElem?_cons_succ]
                repeat (first | ((with_reducible apply wpHeld_stepG); (· rfl); (· (intro w hSw; first | (go_simp; rfl) | ((obtain ⟨_, _, _, hM'⟩ := hSw; exact yields_load (C := fun _ => True) (ql hM') rfl)))); intro K hK; go_simp; (with_reducible refine hK _ ?_); clear hK K) | ((with_reducible apply wpHeld_stepU); (· rfl); intro K hK; go_simp; (with_reducible refine hK _ ?_); clear hK K))
                refine wpHeld_nil ?_
                refine wpAllH_done (by kernel_rfl) ?_
                go_wp2_with fail
                go_ret
                exact ⟨rfl, hM.below⟩
      · have q4 : (ce == 0) = false := by simpa using hce
        clear hce
        go_enter Tryd.func5, Tryd.ntmps5
        go_upto_region 1 with (first | (refine lb hM ?_ (cs := X) (ty := 48) (hn := HXS.out) (hty := row_claim); clear hM; intro g3 w3 hM) | ((first | with_reducible refine at_load ?_ | ((with_reducible refine at_load_g ?_ ?_); (· rfl))); first | refine ll hM ?_ | refine lc hM ?_ | refine lp hM ?_) | ((with_reducible refine at_store ?_); first | (refine lw hM ?_; clear hM; intro wx hM) | (refine ls hM ?_; clear hM; intro wx hM) | (refine lt hM ?_; clear hM; intro wx hM)) | ((with_reducible refine at_alloc ?_); refine lz hM ?_; clear hM; intro gx wx hM) | ((with_reducible refine at_box ?_); refine lb hM ?_; clear hM; intro gx wx hM))
        obtain ⟨g3', hg3⟩ := hM.name1
        subst hg3
        refine wp_region_allHM hM (HeldM [⟨g3', 48, 18, X⟩]) (by kernel_rfl) ?_
        clear hM
        intro wd hM
        have hS := HeldM.of (hM.subL (L' := [_]) (List.Sublist.refl _))
        refine wpAllH_takes [0, 1, 2, 3, 4, 5] (by kernel_rfl) (fun _ _ _ _ _ h => h) hS (by kernel_rfl) ?_
        simp only [pickOps, List.filterMap_cons, List.filterMap_nil, List.getElem?_cons_zero, List.getElem?_cons_succ]
        repeat ((with_reducible apply wpHeld_step); (· rfl); (· (intro w hSw; first | (go_simp; rfl) | ((obtain ⟨_, _, _, hM'⟩ := hSw; first | exact yields_load (C := fun _ => True) (qp hM' (hX := HXN.out)) rfl | exact yields_load (C := fun _ => True) (qc hM' (hv := HX0.out)) rfl | exact yields_load (C := fun _ => True) (qc hM' (hv := HX17.out)) rfl)))); intro K hK; go_simp; (with_reducible refine hK _ ?_); clear hK K)
        refine wpHeld_nil ?_
        refine wpAllH_one 6 rfl (by kernel_rfl) ?_
        refine lz hM ?_
        clear hM hS
        intro g5 wz hM
        have hS := HeldM.of (hM.subL (L' := [⟨g3', 48, 18, X⟩]) (List.sublist_cons_self _ _))
        refine wpList_then ⟨hS, ?_⟩
        refine wpAllH_one 7 rfl (by kernel_rfl) ?_
        refine lw hM ?_
        clear hM hS
        intro wy hM
        have hS := HeldM.of (hM.subL (L' := [⟨g3', 48, 18, X⟩]) (List.sublist_cons_self _ _))
        refine wpList_then ⟨hS, ?_⟩
        refine wpAllH_takes [8, 9] (by kernel_rfl) (fun _ _ _ _ _ h => h) hS (by kernel_rfl) ?_
        simp only [pickOps, List.filterMap_cons, List.filterMap_nil, List.getElem?_cons_zero, List.getElem?_cons_succ]
        repeat ((with_reducible apply wpHeld_step); (· rfl); (· (intro w hSw; first | (go_simp; rfl) | (fail))); intro K hK; go_simp; (with_reducible refine hK _ ?_); clear hK K)
        refine wpHeld_nil ?_
        refine wpAllH_done (by kernel_rfl) ?_
        clear hS
        go_wp2_with (first | ((with_reducible refine (HK.out _ hM.below).mono ?_); rintro e w1 ⟨rfl, hb⟩; replace hM := hM.step hb; clear hb) | ((with_reducible refine (HO.out _ hM.below).mono ?_); rintro e w1 ⟨A1, c1, rfl, hb⟩; replace hM := hM.newThing hb; clear hb) | ((with_reducible refine (HRT.out _ _ _ (ndT_in (hM.thing _ (List.Mem.head _))) hM.below).mono ?_); rintro e w1 ⟨rfl, hb⟩; replace hM := hM.step hb; clear hb) | ((first | with_reducible refine at_load ?_ | ((with_reducible refine at_load_g ?_ ?_); (· rfl))); first | refine ll hM ?_ | refine lc hM ?_ | refine lp hM ?_) | ((with_reducible refine at_store ?_); first | (refine lw hM ?_; clear hM; intro wx hM) | (refine ls hM ?_; clear hM; intro wx hM) | (refine lt hM ?_; clear hM; intro wx hM)) | ((with_reducible refine at_alloc ?_); refine lz hM ?_; clear hM; intro gx wx hM) | ((with_reducible refine at_box ?_); refine lb hM ?_; clear hM; intro gx wx hM))
        obtain ⟨g9, hg9⟩ := hM.name1
        subst hg9
        have M0 := Lib.hid hM
        clear hM
        go_loopw [11] (fun i wr => i = .int .i64 0 ∧ Mem [] w [⟨g9, 27, 16, ndC Z⟩, ⟨g5, 24, 16, ndC lf⟩, ⟨g3', 48, 18, X⟩] [ndT (.slice A1 n c1) leaves] wr) (fun _ _ => 0)
        case atStart => exact ⟨rfl, M0.out⟩
        case round =>
          clear M0
          obtain ⟨rfl, hM⟩ := hrel
          by_cases hn0 : 0 < n
          · have q2 : decide ((0 : Int) < (n : Int)) = true := decide_eq_true (by omega)
            have q3 : decide (0 < n) = true := decide_eq_true hn0
            go_upto_region 12 with fail
            refine wp_region_allHM hM (HeldM [⟨g5, 24, 16, ndC lf⟩]) (by kernel_rfl) ?_
            clear hM
            intro wd hM
            have hS := HeldM.of (hM.subL (L' := [⟨g5, 24, 16, ndC lf⟩]) (List.Sublist.cons _ (List.Sublist.cons_cons _ (List.nil_sublist _))))
            refine wpAllH_takes [0, 1, 2] (by kernel_rfl) (fun _ _ _ _ _ h => h) hS (by kernel_rfl) ?_
            simp only [pickOps, List.filterMap_cons, List.filterMap_nil, List.getElem?_cons_zero, List.getElem?_cons_succ]
            repeat ((with_reducible apply wpHeld_step); (· rfl); (· (intro w hSw; first | (go_simp; rfl) | ((obtain ⟨_, _, _, hM'⟩ := hSw; exact yields_load (C := fun _ => True) (ql hM') rfl)))); intro K hK; go_simp; (with_reducible refine hK _ ?_); clear hK K)
            refine wpHeld_nil ?_
            refine wpAllH_two 3 8 rfl rfl (by kernel_rfl) ?_ ?_
            · go_wp2_with fail
              refine (HO2.out _ hM.below).mono ?_
              rintro e w1 ⟨A3, c3, rfl, hb⟩
              replace hM := hM.newThing hb
              clear hb hS
              have hS := HeldM.of (hM.subL (L' := [⟨g5, 24, 16, ndC lf⟩]) (List.Sublist.cons _ (List.Sublist.cons_cons _ (List.nil_sublist _))))
              go_wp2_with fail
              refine then_normal ⟨hS, ?_⟩
              refine wpAllH_two 4 8 rfl rfl (by kernel_rfl) ?_ ?_
              · go_wp2_with fail
                refine (HFR.out _ _ _ (ndT_in (hM.thing _ (List.Mem.head _))) hM.below).mono ?_
                rintro e w1 ⟨rfl, hb⟩
                replace hM := hM.step hb
                clear hb hS
                have hS := HeldM.of (hM.subL (L' := [⟨g5, 24, 16, ndC lf⟩]) (List.Sublist.cons _ (List.Sublist.cons_cons _ (List.nil_sublist _))))
                go_wp2_with fail
                refine then_normal ⟨hS, ?_⟩
                refine wpAllH_takes [5, 6, 7] (by kernel_rfl) (fun _ _ _ _ _ h => h) hS (by kernel_rfl) ?_
                simp only [pickOps, List.filterMap_cons, List.filterMap_nil, List.getElem?_cons_zero, List.getElem?_cons_succ]
                repeat ((with_reducible apply wpHeld_step); (· rfl); (· (intro w hSw; first | (go_simp; rfl) | (fail))); intro K hK; go_simp; (with_reducible refine hK _ ?_); clear hK K)
                refine wpHeld_nil ?_
                refine wpAllH_one 8 rfl (by kernel_rfl) ?_
                refine lz hM ?_
                clear hM hS
                intro g14 wz hM
                have hS := HeldM.of (hM.subL (L' := [⟨g5, 24, 16, ndC lf⟩]) (List.Sublist.cons _ (List.Sublist.cons _ (List.Sublist.cons_cons _ (List.nil_sublist _)))))
                refine wpList_then ⟨hS, ?_⟩
                refine wpAllH_one 9 rfl (by kernel_rfl) ?_
                refine lw hM ?_
                clear hM hS
                intro wy hM
                have hS := HeldM.of (hM.subL (L' := [⟨g5, 24, 16, ndC lf⟩]) (List.Sublist.cons _ (List.Sublist.cons _ (List.Sublist.cons_cons _ (List.nil_sublist _)))))
                refine wpList_then ⟨hS, ?_⟩
                refine wpAllH_takes [10] (by kernel_rfl) (fun _ _ _ _ _ h => h) hS (by kernel_rfl) ?_
                simp only [pickOps, List.filterMap_cons, List.filterMap_nil, List.getElem?_cons_zero, List.getElem?_cons_succ]
                repeat ((with_reducible apply wpHeld_step); (· rfl); (· (intro w hSw; first | (go_simp; rfl) | (fail))); intro K hK; go_simp; (with_reducible refine hK _ ?_); clear hK K)
                refine wpHeld_nil ?_
                refine wpAllH_done (by kernel_rfl) ?_
                clear hS
                go_upto_region 16 with (first | ((with_reducible refine (HPR.out _ hM.below).mono ?_); rintro e w1 ⟨A4, c4', rfl, hb⟩; replace hM := hM.newThing hb; clear hb) | ((first | with_reducible refine at_load ?_ | ((with_reducible refine at_load_g ?_ ?_); (· rfl))); first | refine ll hM ?_ | refine lc hM ?_ | refine lp hM ?_) | ((with_reducible refine at_store ?_); first | (refine lw hM ?_; clear hM; intro wx hM) | (refine ls hM ?_; clear hM; intro wx hM) | (refine lt hM ?_; clear hM; intro wx hM)) | ((with_reducible refine at_alloc ?_); refine lz hM ?_; clear hM; intro gx wx hM) | ((with_reducible refine at_box ?_); refine lb hM ?_; clear hM; intro gx wx hM))
                obtain ⟨g17, hg17⟩ := hM.name1
                subst hg17
                cases hfe : (fe == 0)
                · rw [hfe] at HVF
                  refine wp_region_allHM hM (HeldM [⟨g17, 24, 16, ndC Z1⟩, ⟨g14, 27, 16, ndC Z1⟩, ⟨g9, 27, 16, ndC Z⟩, ⟨g5, 24, 16, ndC lf⟩]) (by kernel_rfl) ?_
                  clear hM
                  intro wd hM
                  have hS := HeldM.of (hM.subL (L' := [_, _, _, _]) (List.Sublist.cons_cons _ (List.Sublist.cons_cons _ (List.Sublist.cons_cons _ (List.Sublist.cons_cons _ (List.nil_sublist _))))))
                  refine wpAllH_takes [0, 1, 2, 3, 6, 7] (by kernel_rfl) (fun _ _ _ _ _ h => h) hS (by kernel_rfl) ?_
                  simp only [pickOps, List.filterMap_cons, List.filterMap_nil, List.getElem?_cons_zero, List.getElem?_cons_succ]
                  repeat (first | ((with_reducible apply wpHeld_stepG); (· rfl); (· (intro w hSw; first | (go_simp; rfl) | ((obtain ⟨_, _, _, hM'⟩ := hSw; exact yields_load (C := fun _ => True) (ql hM') rfl)))); intro K hK; go_simp; (with_reducible refine hK _ ?_); clear hK K) | ((with_reducible apply wpHeld_stepU); (· rfl); intro K hK; go_simp; (with_reducible refine hK _ ?_); clear hK K))
                  refine wpHeld_nil ?_
                  refine wpAllH_one 4 rfl (by kernel_rfl) ?_
                  go_wp2_with fail
                  refine (HO2.out _ hM.below).mono ?_
                  rintro e w1 ⟨A3, c3, rfl, hb⟩
                  replace hM := hM.newThing hb
                  clear hb hS
                  have hS := HeldM.of (hM.subL (L' := [_, _, _, _]) (List.Sublist.cons_cons _ (List.Sublist.cons_cons _ (List.Sublist.cons_cons _ (List.Sublist.cons_cons _ (List.nil_sublist _))))))
                  go_wp2_with fail
                  refine then_normal ⟨hS, ?_⟩
                  refine wpAllH_one 5 rfl (by kernel_rfl) ?_
                  go_wp2_with fail
                  refine (HVF.out _ _ _ (ndT_in (hM.thing _ (List.Mem.head _))) hM.below).mono ?_
                  rintro e w1 ⟨rfl, hb⟩
                  replace hM := hM.step hb
                  clear hb hS
                  have hS := HeldM.of (hM.subL (L' := [_, _, _, _]) (List.Sublist.cons_cons _ (List.Sublist.cons_cons _ (List.Sublist.cons_cons _ (List.Sublist.cons_cons _ (List.nil_sublist _))))))
                  go_wp2_with fail
                  refine then_normal ⟨hS, ?_⟩
                  refine wpAllH_takes [8, 9, 10, 11, 12, 13, 14] (by kernel_rfl) (fun _ _ _ _ _ h => h) hS (by kernel_rfl) ?_
                  simp only [pickOps, List.filterMap_cons, List.filterMap_nil, List.getElem?_cons_zero, List.getElem?_cons_succ]
                  repeat (first | ((with_reducible apply wpHeld_stepG); (· rfl); (· (intro w hSw; first | (go_simp; rfl) | ((obtain ⟨_, _, _, hM'⟩ := hSw; exact yields_load (C := fun _ => True) (ql hM') rfl)))); intro K hK; go_simp; (with_reducible refine hK _ ?_); clear hK K) | ((with_reducible apply wpHeld_stepU); (· rfl); intro K hK; go_simp; (with_reducible refine hK _ ?_); clear hK K))
                  refine wpHeld_nil ?_
                  refine wpAllH_done (by kernel_rfl) ?_
                  go_wp2_with fail
                  go_ret
                  exact ⟨rfl, hM.below⟩
                · rw [hfe] at HVF
                  refine wp_region_allHM hM (HeldM [⟨g17, 24, 16, ndC Z1⟩, ⟨g14, 27, 16, ndC Z1⟩, ⟨g9, 27, 16, ndC Z⟩, ⟨g5, 24, 16, ndC lf⟩]) (by kernel_rfl) ?_
                  clear hM
                  intro wd hM
                  have hS := HeldM.of (hM.subL (L' := [_, _, _, _]) (List.Sublist.cons_cons _ (List.Sublist.cons_cons _ (List.Sublist.cons_cons _ (List.Sublist.cons_cons _ (List.nil_sublist _))))))
                  refine wpAllH_takes [0, 1, 2, 3, 6, 7] (by kernel_rfl) (fun _ _ _ _ _ h => h) hS (by kernel_rfl) ?_
                  simp only [pickOps, List.filterMap_cons, List.filterMap_nil, List.getElem?_cons_zero, List.getElem?_cons_succ]
                  repeat (first | ((with_reducible apply wpHeld_stepG); (· rfl); (· (intro w hSw; first | (go_simp; rfl) | ((obtain ⟨_, _, _, hM'⟩ := hSw; exact yields_load (C := fun _ => True) (ql hM') rfl)))); intro K hK; go_simp; (with_reducible refine hK _ ?_); clear hK K) | ((with_reducible apply wpHeld_stepU); (· rfl); intro K hK; go_simp; (with_reducible refine hK _ ?_); clear hK K))
                  refine wpHeld_nil ?_
                  refine wpAllH_one 4 rfl (by kernel_rfl) ?_
                  go_wp2_with fail
                  refine (HO2.out _ hM.below).mono ?_
                  rintro e w1 ⟨A3, c3, rfl, hb⟩
                  replace hM := hM.newThing hb
                  clear hb hS
                  have hS := HeldM.of (hM.subL (L' := [_, _, _, _]) (List.Sublist.cons_cons _ (List.Sublist.cons_cons _ (List.Sublist.cons_cons _ (List.Sublist.cons_cons _ (List.nil_sublist _))))))
                  go_wp2_with fail
                  refine then_normal ⟨hS, ?_⟩
                  refine wpAllH_one 5 rfl (by kernel_rfl) ?_
                  go_wp2_with fail
                  refine (HVF.out _ _ _ (ndT_in (hM.thing _ (List.Mem.head _))) hM.below).mono ?_
                  rintro e w1 ⟨rfl, hb⟩
                  replace hM := hM.step hb
                  clear hb hS
                  have hS := HeldM.of (hM.subL (L' := [_, _, _, _]) (List.Sublist.cons_cons _ (List.Sublist.cons_cons _ (List.Sublist.cons_cons _ (List.Sublist.cons_cons _ (List.nil_sublist _))))))
                  go_wp2_with fail
                  refine then_normal ⟨hS, ?_⟩
                  refine wpAllH_takes [8, 9, 10, 11, 12, 13, 14] (by kernel_rfl) (fun _ _ _ _ _ h => h) hS (by kernel_rfl) ?_
                  simp only [pickOps, List.filterMap_cons, List.filterMap_nil, List.getElem?_cons_zero, List.getElem?_cons_succ]
                  repeat (first | ((with_reducible apply wpHeld_stepG); (· rfl); (· (intro w hSw; first | (go_simp; rfl) | ((obtain ⟨_, _, _, hM'⟩ := hSw; exact yields_load (C := fun _ => True) (ql hM') rfl)))); intro K hK; go_simp; (with_reducible refine hK _ ?_); clear hK K) | ((with_reducible apply wpHeld_stepU); (· rfl); intro K hK; go_simp; (with_reducible refine hK _ ?_); clear hK K))
                  refine wpHeld_nil ?_
                  refine wpAllH_done (by kernel_rfl) ?_
                  go_wp2_with fail
                  go_ret
                  exact ⟨rfl, hM.below⟩
              · refine lz hM ?_
                clear hM hS
                intro g14 wz hM
                have hS := HeldM.of (hM.subL (L' := [⟨g5, 24, 16, ndC lf⟩]) (List.Sublist.cons _ (List.Sublist.cons _ (List.Sublist.cons_cons _ (List.nil_sublist _)))))
                refine wpList_then ⟨hS, ?_⟩
                refine wpAllH_one 4 rfl (by kernel_rfl) ?_
                go_wp2_with fail
                refine (HFR.out _ _ _ (ndT_in (hM.thing _ (List.Mem.head _))) hM.below).mono ?_
                rintro e w1 ⟨rfl, hb⟩
                replace hM := hM.step hb
                clear hb hS
                have hS := HeldM.of (hM.subL (L' := [⟨g5, 24, 16, ndC lf⟩]) (List.Sublist.cons _ (List.Sublist.cons _ (List.Sublist.cons_cons _ (List.nil_sublist _)))))
                go_wp2_with fail
                refine then_normal ⟨hS, ?_⟩
                refine wpAllH_takes [5, 6, 7] (by kernel_rfl) (fun _ _ _ _ _ h => h) hS (by kernel_rfl) ?_
                simp only [pickOps, List.filterMap_cons, List.filterMap_nil, List.getElem?_cons_zero, List.getElem?_cons_succ]
                repeat ((with_reducible apply wpHeld_step); (· rfl); (· (intro w hSw; first | (go_simp; rfl) | (fail))); intro K hK; go_simp; (with_reducible refine hK _ ?_); clear hK K)
                refine wpHeld_nil ?_
                refine wpAllH_one 9 rfl (by kernel_rfl) ?_
                refine lw hM ?_
                clear hM hS
                intro wy hM
                have hS := HeldM.of (hM.subL (L' := [⟨g5, 24, 16, ndC lf⟩]) (List.Sublist.cons _ (List.Sublist.cons _ (List.Sublist.cons_cons _ (List.nil_sublist _)))))
                refine wpList_then ⟨hS, ?_⟩
                refine wpAllH_takes [10] (by kernel_rfl) (fun _ _ _ _ _ h => h) hS (by kernel_rfl) ?_
                simp only [pickOps, List.filterMap_cons, List.filterMap_nil, List.getElem?_cons_zero, List.getElem?_cons_succ]
                repeat ((with_reducible apply wpHeld_step); (· rfl); (· (intro w hSw; first | (go_simp; rfl) | (fail))); intro K hK; go_simp; (with_reducible refine hK _ ?_); clear hK K)
                refine wpHeld_nil ?_
                refine wpAllH_done (by kernel_rfl) ?_
                clear hS
                go_upto_region 16 with (first | ((with_reducible refine (HPR.out _ hM.below).mono ?_); rintro e w1 ⟨A4, c4', rfl, hb⟩; replace hM := hM.newThing hb; clear hb) | ((first | with_reducible refine at_load ?_ | ((with_reducible refine at_load_g ?_ ?_); (· rfl))); first | refine ll hM ?_ | refine lc hM ?_ | refine lp hM ?_) | ((with_reducible refine at_store ?_); first | (refine lw hM ?_; clear hM; intro wx hM) | (refine ls hM ?_; clear hM; intro wx hM) | (refine lt hM ?_; clear hM; intro wx hM)) | ((with_reducible refine at_alloc ?_); refine lz hM ?_; clear hM; intro gx wx hM) | ((with_reducible refine at_box ?_); refine lb hM ?_; clear hM; intro gx wx hM))
                obtain ⟨g17, hg17⟩ := hM.name1
                subst hg17
                cases hfe : (fe == 0)
                · rw [hfe] at HVF
                  refine wp_region_allHM hM (HeldM [⟨g17, 24, 16, ndC Z1⟩, ⟨g14, 27, 16, ndC Z1⟩, ⟨g9, 27, 16, ndC Z⟩, ⟨g5, 24, 16, ndC lf⟩]) (by kernel_rfl) ?_
                  clear hM
                  intro wd hM
                  have hS := HeldM.of (hM.subL (L' := [_, _, _, _]) (List.Sublist.cons_cons _ (List.Sublist.cons_cons _ (List.Sublist.cons_cons _ (List.Sublist.cons_cons _ (List.nil_sublist _))))))
                  refine wpAllH_takes [0, 1, 2, 3, 6, 7] (by kernel_rfl) (fun _ _ _ _ _ h => h) hS (by kernel_rfl) ?_
                  simp only [pickOps, List.filterMap_cons, List.filterMap_nil, List.getElem?_cons_zero, List.getElem?_cons_succ]
                  repeat (first | ((with_reducible apply wpHeld_stepG); (· rfl); (· (intro w hSw; first | (go_simp; rfl) | ((obtain ⟨_, _, _, hM'⟩ := hSw; exact yields_load (C := fun _ => True) (ql hM') rfl)))); intro K hK; go_simp; (with_reducible refine hK _ ?_); clear hK K) | ((with_reducible apply wpHeld_stepU); (· rfl); intro K hK; go_simp; (with_reducible refine hK _ ?_); clear hK K))
                  refine wpHeld_nil ?_
                  refine wpAllH_one 4 rfl (by kernel_rfl) ?_
                  go_wp2_with fail
                  refine (HO2.out _ hM.below).mono ?_
                  rintro e w1 ⟨A3, c3, rfl, hb⟩
                  replace hM := hM.newThing hb
                  clear hb hS
                  have hS := HeldM.of (hM.subL (L' := [_, _, _, _]) (List.Sublist.cons_cons _ (List.Sublist.cons_cons _ (List.Sublist.cons_cons _ (List.Sublist.cons_cons _ (List.nil_sublist _))))))
                  go_wp2_with fail
                  refine then_normal ⟨hS, ?_⟩
                  refine wpAllH_one 5 rfl (by kernel_rfl) ?_
                  go_wp2_with fail
                  refine (HVF.out _ _ _ (ndT_in (hM.thing _ (List.Mem.head _))) hM.below).mono ?_
                  rintro e w1 ⟨rfl, hb⟩
                  replace hM := hM.step hb
                  clear hb hS
                  have hS := HeldM.of (hM.subL (L' := [_, _, _, _]) (List.Sublist.cons_cons _ (List.Sublist.cons_cons _ (List.Sublist.cons_cons _ (List.Sublist.cons_cons _ (List.nil_sublist _))))))
                  go_wp2_with fail
                  refine then_normal ⟨hS, ?_⟩
                  refine wpAllH_takes [8, 9, 10, 11, 12, 13, 14] (by kernel_rfl) (fun _ _ _ _ _ h => h) hS (by kernel_rfl) ?_
                  simp only [pickOps, List.filterMap_cons, List.filterMap_nil, List.getElem?_cons_zero, List.getElem?_cons_succ]
                  repeat (first | ((with_reducible apply wpHeld_stepG); (· rfl); (· (intro w hSw; first | (go_simp; rfl) | ((obtain ⟨_, _, _, hM'⟩ := hSw; exact yields_load (C := fun _ => True) (ql hM') rfl)))); intro K hK; go_simp; (with_reducible refine hK _ ?_); clear hK K) | ((with_reducible apply wpHeld_stepU); (· rfl); intro K hK; go_simp; (with_reducible refine hK _ ?_); clear hK K))
                  refine wpHeld_nil ?_
                  refine wpAllH_done (by kernel_rfl) ?_
                  go_wp2_with fail
                  go_ret
                  exact ⟨rfl, hM.below⟩
                · rw [hfe] at HVF
                  refine wp_region_allHM hM (HeldM [⟨g17, 24, 16, ndC Z1⟩, ⟨g14, 27, 16, ndC Z1⟩, ⟨g9, 27, 16, ndC Z⟩, ⟨g5, 24, 16, ndC lf⟩]) (by kernel_rfl) ?_
                  clear hM
                  intro wd hM
                  have hS := HeldM.of (hM.subL (L' := [_, _, _, _]) (List.Sublist.cons_cons _ (List.Sublist.cons_cons _ (List.Sublist.cons_cons _ (List.Sublist.cons_cons _ (List.nil_sublist _))))))
                  refine wpAllH_takes [0, 1, 2, 3, 6, 7] (by kernel_rfl) (fun _ _ _ _ _ h => h) hS (by kernel_rfl) ?_
                  simp only [pickOps, List.filterMap_cons, List.filterMap_nil, List.getElem?_cons_zero, List.getElem?_cons_succ]
                  repeat (first | ((with_reducible apply wpHeld_stepG); (· rfl); (· (intro w hSw; first | (go_simp; rfl) | ((obtain ⟨_, _, _, hM'⟩ := hSw; exact yields_load (C := fun _ => True) (ql hM') rfl)))); intro K hK; go_simp; (with_reducible refine hK _ ?_); clear hK K) | ((with_reducible apply wpHeld_stepU); (· rfl); intro K hK; go_simp; (with_reducible refine hK _ ?_); clear hK K))
                  refine wpHeld_nil ?_
                  refine wpAllH_one 4 rfl (by kernel_rfl) ?_
                  go_wp2_with fail
                  refine (HO2.out _ hM.below).mono ?_
                  rintro e w1 ⟨A3, c3, rfl, hb⟩
                  replace hM := hM.newThing hb
                  clear hb hS
                  have hS := HeldM.of (hM.subL (L' := [_, _, _, _]) (List.Sublist.cons_cons _ (List.Sublist.cons_cons _ (List.Sublist.cons_cons _ (List.Sublist.cons_cons _ (List.nil_sublist _))))))
                  go_wp2_with fail
                  refine then_normal ⟨hS, ?_⟩
                  refine wpAllH_one 5 rfl (by kernel_rfl) ?_
                  go_wp2_with fail
                  refine (HVF.out _ _ _ (ndT_in (hM.thing _ (List.Mem.head _))) hM.below).mono ?_
                  rintro e w1 ⟨rfl, hb⟩
                  replace hM := hM.step hb
                  clear hb hS
                  have hS := HeldM.of (hM.subL (L' := [_, _, _, _]) (List.Sublist.cons_cons _ (List.Sublist.cons_cons _ (List.Sublist.cons_cons _ (List.Sublist.cons_cons _ (List.nil_sublist _))))))
                  go_wp2_with fail
                  refine then_normal ⟨hS, ?_⟩
                  refine wpAllH_takes [8, 9, 10, 11, 12, 13, 14] (by kernel_rfl) (fun _ _ _ _ _ h => h) hS (by kernel_rfl) ?_
                  simp only [pickOps, List.filterMap_cons, List.filterMap_nil, List.getElem?_cons_zero, List.getElem?_cons_succ]
                  repeat (first | ((with_reducible apply wpHeld_stepG); (· rfl); (· (intro w hSw; first | (go_simp; rfl) | ((obtain ⟨_, _, _, hM'⟩ := hSw; exact yields_load (C := fun _ => True) (ql hM') rfl)))); intro K hK; go_simp; (with_reducible refine hK _ ?_); clear hK K) | ((with_reducible apply wpHeld_stepU); (· rfl); intro K hK; go_simp; (with_reducible refine hK _ ?_); clear hK K))
                  refine wpHeld_nil ?_
                  refine wpAllH_done (by kernel_rfl) ?_
                  go_wp2_with fail
                  go_ret
                  exact ⟨rfl, hM.below⟩
            · refine lz hM ?_
              clear hM hS
              intro g14 wz hM
              have hS := HeldM.of (hM.subL (L' := [⟨g5, 24, 16, ndC lf⟩]) (List.Sublist.cons _ (List.Sublist.cons _ (List.Sublist.cons_cons _ (List.nil_sublist _)))))
              refine wpList_then ⟨hS, ?_⟩
              refine wpAllH_one 3 rfl (by kernel_rfl) ?_
              go_wp2_with fail
              refine (HO2.out _ hM.below).mono ?_
              rintro e w1 ⟨A3, c3, rfl, hb⟩
              replace hM := hM.newThing hb
              clear hb hS
              have hS := HeldM.of (hM.subL (L' := [⟨g5, 24, 16, ndC lf⟩]) (List.Sublist.cons _ (List.Sublist.cons _ (List.Sublist.cons_cons _ (List.nil_sublist _)))))
              go_wp2_with fail
              refine then_normal ⟨hS, ?_⟩
              refine wpAllH_one 4 rfl (by kernel_rfl) ?_
              go_wp2_with fail
              refine (HFR.out _ _ _ (ndT_in (hM.thing _ (List.Mem.head _))) hM.below).mono ?_
              rintro e w1 ⟨rfl, hb⟩
              replace hM := hM.step hb
              clear hb hS
              have hS := HeldM.of (hM.subL (L' := [⟨g5, 24, 16, ndC lf⟩]) (List.Sublist.cons _ (List.Sublist.cons _ (List.Sublist.cons_cons _ (List.nil_sublist _)))))
              go_wp2_with fail
              refine then_normal ⟨hS, ?_⟩
              refine wpAllH_takes [5, 6, 7] (by kernel_rfl) (fun _ _ _ _ _ h => h) hS (by kernel_rfl) ?_
              simp only [pickOps, List.filterMap_cons, List.filterMap_nil, List.getElem?_cons_zero, List.getElem?_cons_succ]
              repeat ((with_reducible apply wpHeld_step); (· rfl); (· (intro w hSw; first | (go_simp; rfl) | (fail))); intro K hK; go_simp; (with_reducible refine hK _ ?_); clear hK K)
              refine wpHeld_nil ?_
              refine wpAllH_one 9 rfl (by kernel_rfl) ?_
              refine lw hM ?_
              clear hM hS
              intro wy hM
              have hS := HeldM.of (hM.subL (L' := [⟨g5, 24, 16, ndC lf⟩]) (List.Sublist.cons _ (List.Sublist.cons _ (List.Sublist.cons_cons _ (List.nil_sublist _)))))
              refine wpList_then ⟨hS, ?_⟩
              refine wpAllH_takes [10] (by kernel_rfl) (fun _ _ _ _ _ h => h) hS (by kernel_rfl) ?_
              simp only [pickOps, List.filterMap_cons, List.filterMap_nil, List.getElem?_cons_zero, List.getElem?_cons_succ]
              repeat ((with_reducible apply wpHeld_step); (· rfl); (· (intro w hSw; first | (go_simp; rfl) | (fail))); intro K hK; go_simp; (with_reducible refine hK _ ?_); clear hK K)
              refine wpHeld_nil ?_
              refine wpAllH_done (by kernel_rfl) ?_
              clear hS
              go_upto_region 16 with (first | ((with_reducible refine (HPR.out _ hM.below).mono ?_); rintro e w1 ⟨A4, c4', rfl, hb⟩; replace hM := hM.newThing hb; clear hb) | ((first | with_reducible refine at_load ?_ | ((with_reducible refine at_load_g ?_ ?_); (· rfl))); first | refine ll hM ?_ | refine lc hM ?_ | refine lp hM ?_) | ((with_reducible refine at_store ?_); first | (refine lw hM ?_; clear hM; intro wx hM) | (refine ls hM ?_; clear hM; intro wx hM) | (refine lt hM ?_; clear hM; intro wx hM)) | ((with_reducible refine at_alloc ?_); refine lz hM ?_; clear hM; intro gx wx hM) | ((with_reducible refine at_box ?_); refine lb hM ?_; clear hM; intro gx wx hM))
              obtain ⟨g17, hg17⟩ := hM.name1
              subst hg17
              cases hfe : (fe == 0)
              · rw [hfe] at HVF
                refine wp_region_allHM hM (HeldM [⟨g17, 24, 16, ndC Z1⟩, ⟨g14, 27, 16, ndC Z1⟩, ⟨g9, 27, 16, ndC Z⟩, ⟨g5, 24, 16, ndC lf⟩]) (by kernel_rfl) ?_
                clear hM
                intro wd hM
                have hS := HeldM.of (hM.subL (L' := [_, _, _, _]) (List.Sublist.cons_cons _ (List.Sublist.cons_cons _ (List.Sublist.cons_cons _ (List.Sublist.cons_cons _ (List.nil_sublist _))))))
                refine wpAllH_takes [0, 1, 2, 3, 6, 7] (by kernel_rfl) (fun _ _ _ _ _ h => h) hS (by kernel_rfl) ?_
                simp only [pickOps, List.filterMap_cons, List.filterMap_nil, List.getElem?_cons_zero, List.getElem?_cons_succ]
                repeat (first | ((with_reducible apply wpHeld_stepG); (· rfl); (· (intro w hSw; first | (go_simp; rfl) | ((obtain ⟨_, _, _, hM'⟩ := hSw; exact yields_load (C := fun _ => True) (ql hM') rfl)))); intro K hK; go_simp; (with_reducible refine hK _ ?_); clear hK K) | ((with_reducible apply wpHeld_stepU); (· rfl); intro K hK; go_simp; (with_reducible refine hK _ ?_); clear hK K))
                refine wpHeld_nil ?_
                refine wpAllH_one 4 rfl (by kernel_rfl) ?_
                go_wp2_with fail
                refine (HO2.out _ hM.below).mono ?_
                rintro e w1 ⟨A3, c3, rfl, hb⟩
                replace hM := hM.newThing hb
                clear hb hS
                have hS := HeldM.of (hM.subL (L' := [_, _, _, _]) (List.Sublist.cons_cons _ (List.Sublist.cons_cons _ (List.Sublist.cons_cons _ (List.Sublist.cons_cons _ (List.nil_sublist _))))))
                go_wp2_with fail
                refine then_normal ⟨hS, ?_⟩
                refine wpAllH_one 5 rfl (by kernel_rfl) ?_
                go_wp2_with fail
                refine (HVF.out _ _ _ (ndT_in (hM.thing _ (List.Mem.head _))) hM.below).mono ?_
                rintro e w1 ⟨rfl, hb⟩
                replace hM := hM.step hb
                clear hb hS
                have hS := HeldM.of (hM.subL (L' := [_, _, _, _]) (List.Sublist.cons_cons _ (List.Sublist.cons_cons _ (List.Sublist.cons_cons _ (List.Sublist.cons_cons _ (List.nil_sublist _))))))
                go_wp2_with fail
                refine then_normal ⟨hS, ?_⟩
                refine wpAllH_takes [8, 9, 10, 11, 12, 13, 14] (by kernel_rfl) (fun _ _ _ _ _ h => h) hS (by kernel_rfl) ?_
                simp only [pickOps, List.filterMap_cons, List.filterMap_nil, List.getElem?_cons_zero, List.getElem?_cons_succ]
                repeat (first | ((with_reducible apply wpHeld_stepG); (· rfl); (· (intro w hSw; first | (go_simp; rfl) | ((obtain ⟨_, _, _, hM'⟩ := hSw; exact yields_load (C := fun _ => True) (ql hM') rfl)))); intro K hK; go_simp; (with_reducible refine hK _ ?_); clear hK K) | ((with_reducible apply wpHeld_stepU); (· rfl); intro K hK; go_simp; (with_reducible refine hK _ ?_); clear hK K))
                refine wpHeld_nil ?_
                refine wpAllH_done (by kernel_rfl) ?_
                go_wp2_with fail
                go_ret
                exact ⟨rfl, hM.below⟩
              · rw [hfe] at HVF
                refine wp_region_allHM hM (HeldM [⟨g17, 24, 16, ndC Z1⟩, ⟨g14, 27, 16, ndC Z1⟩, ⟨g9, 27, 16, ndC Z⟩, ⟨g5, 24, 16, ndC lf⟩]) (by kernel_rfl) ?_
                clear hM
                intro wd hM
                have hS := HeldM.of (hM.subL (L' := [_, _, _, _]) (List.Sublist.cons_cons _ (List.Sublist.cons_cons _ (List.Sublist.cons_cons _ (List.Sublist.cons_cons _ (List.nil_sublist _))))))
                refine wpAllH_takes [0, 1, 2, 3, 6, 7] (by kernel_rfl) (fun _ _ _ _ _ h => h) hS (by kernel_rfl) ?_
                simp only [pickOps, List.filterMap_cons, List.filterMap_nil, List.getElem?_cons_zero, List.getElem?_cons_succ]
                repeat (first | ((with_reducible apply wpHeld_stepG); (· rfl); (· (intro w hSw; first | (go_simp; rfl) | ((obtain ⟨_, _, _, hM'⟩ := hSw; exact yields_load (C := fun _ => True) (ql hM') rfl)))); intro K hK; go_simp; (with_reducible refine hK _ ?_); clear hK K) | ((with_reducible apply wpHeld_stepU); (· rfl); intro K hK; go_simp; (with_reducible refine hK _ ?_); clear hK K))
                refine wpHeld_nil ?_
                refine wpAllH_one 4 rfl (by kernel_rfl) ?_
                go_wp2_with fail
                refine (HO2.out _ hM.below).mono ?_
                rintro e w1 ⟨A3, c3, rfl, hb⟩
                replace hM := hM.newThing hb
                clear hb hS
                have hS := HeldM.of (hM.subL (L' := [_, _, _, _]) (List.Sublist.cons_cons _ (List.Sublist.cons_cons _ (List.Sublist.cons_cons _ (List.Sublist.cons_cons _ (List.nil_sublist _))))))
                go_wp2_with fail
                refine then_normal ⟨hS, ?_⟩
                refine wpAllH_one 5 rfl (by kernel_rfl) ?_
                go_wp2_with fail
                refine (HVF.out _ _ _ (ndT_in (hM.thing _ (List.Mem.head _))) hM.below).mono ?_
                rintro e w1 ⟨rfl, hb⟩
                replace hM := hM.step hb
                clear hb hS
                have hS := HeldM.of (hM.subL (L' := [_, _, _, _]) (List.Sublist.cons_cons _ (List.Sublist.cons_cons _ (List.Sublist.cons_cons _ (List.Sublist.cons_cons _ (List.nil_sublist _))))))
                go_wp2_with fail
                refine then_normal ⟨hS, ?_⟩
                refine wpAllH_takes [8, 9, 10, 11, 12, 13, 14] (by kernel_rfl) (fun _ _ _ _ _ h => h) hS (by kernel_rfl) ?_
                simp only [pickOps, List.filterMap_cons, List.filterMap_nil, List.getElem?_cons_zero, List.getElem?_cons_succ]
                repeat (first | ((with_reducible apply wpHeld_stepG); (· rfl); (· (intro w hSw; first | (go_simp; rfl) | ((obtain ⟨_, _, _, hM'⟩ := hSw; exact yields_load (C := fun _ => True) (ql hM') rfl)))); intro K hK; go_simp; (with_reducible refine hK _ ?_); clear hK K) | ((with_reducible apply wpHeld_stepU); (· rfl); intro K hK; go_simp; (with_reducible refine hK _ ?_); clear hK K))
                refine wpHeld_nil ?_
                refine wpAllH_done (by kernel_rfl) ?_
                go_wp2_with fail
                go_ret
                exact ⟨rfl, hM.below⟩
          · have q2 : decide ((0 : Int) < (n : Int)) = false := decide_eq_false (by omega)
            have q3 : decide (0 < n) = false := decide_eq_false hn0
            go_upto_region 12 with fail
            refine wp_region_allHM hM (HeldM [⟨g5, 24, 16, ndC lf⟩]) (by kernel_rfl) ?_
            clear hM
            intro wd hM
            have hS := HeldM.of (hM.subL (L' := [⟨g5, 24, 16, ndC lf⟩]) (List.Sublist.cons _ (List.Sublist.cons_cons _ (List.nil_sublist _))))
            refine wpAllH_takes [0, 1, 2] (by kernel_rfl) (fun _ _ _ _ _ h => h) hS (by kernel_rfl) ?_
            simp only [pickOps, List.filterMap_cons, List.filterMap_nil, List.getElem?_cons_zero, List.getElem?_cons_succ]
            repeat ((with_reducible apply wpHeld_step); (· rfl); (· (intro w hSw; first | (go_simp; rfl) | ((obtain ⟨_, _, _, hM'⟩ := hSw; exact yields_load (C := fun _ => True) (ql hM') rfl)))); intro K hK; go_simp; (with_reducible refine hK _ ?_); clear hK K)
            refine wpHeld_nil ?_
            refine wpAllH_two 3 8 rfl rfl (by kernel_rfl) ?_ ?_
            · go_wp2_with fail
              refine (HO2.out _ hM.below).mono ?_
              rintro e w1 ⟨A3, c3, rfl, hb⟩
              replace hM := hM.newThing hb
              clear hb hS
              have hS := HeldM.of (hM.subL (L' := [⟨g5, 24, 16, ndC lf⟩]) (List.Sublist.cons _ (List.Sublist.cons_cons _ (List.nil_sublist _))))
              go_wp2_with fail
              refine then_normal ⟨hS, ?_⟩
              refine wpAllH_two 4 8 rfl rfl (by kernel_rfl) ?_ ?_
              · go_wp2_with fail
                refine (HFR.out _ _ _ (ndT_in (hM.thing _ (List.Mem.head _))) hM.below).mono ?_
                rintro e w1 ⟨rfl, hb⟩
                replace hM := hM.step hb
                clear hb hS
                have hS := HeldM.of (hM.subL (L' := [⟨g5, 24, 16, ndC lf⟩]) (List.Sublist.cons _ (List.Sublist.cons_cons _ (List.nil_sublist _))))
                go_wp2_with fail
                refine then_normal ⟨hS, ?_⟩
                refine wpAllH_takes [5, 6, 7] (by kernel_rfl) (fun _ _ _ _ _ h => h) hS (by kernel_rfl) ?_
                simp only [pickOps, List.filterMap_cons, List.filterMap_nil, List.getElem?_cons_zero, List.getElem?_cons_succ]
                repeat ((with_reducible apply wpHeld_step); (· rfl); (· (intro w hSw; first | (go_simp; rfl) | (fail))); intro K hK; go_simp; (with_reducible refine hK _ ?_); clear hK K)
                refine wpHeld_nil ?_
                refine wpAllH_one 8 rfl (by kernel_rfl) ?_
                refine lz hM ?_
                clear hM hS
                intro g14 wz hM
                have hS := HeldM.of (hM.subL (L' := [⟨g5, 24, 16, ndC lf⟩]) (List.Sublist.cons _ (List.Sublist.cons _ (List.Sublist.cons_cons _ (List.nil_sublist _)))))
                refine wpList_then ⟨hS, ?_⟩
                refine wpAllH_one 9 rfl (by kernel_rfl) ?_
                refine lw hM ?_
                clear hM hS
                intro wy hM
                have hS := HeldM.of (hM.subL (L' := [⟨g5, 24, 16, ndC lf⟩]) (List.Sublist.cons _ (List.Sublist.cons _ (List.Sublist.cons_cons _ (List.nil_sublist _)))))
                refine wpList_then ⟨hS, ?_⟩
                refine wpAllH_takes [10] (by kernel_rfl) (fun _ _ _ _ _ h => h) hS (by kernel_rfl) ?_
                simp only [pickOps, List.filterMap_cons, List.filterMap_nil, List.getElem?_cons_zero, List.getElem?_cons_succ]
                repeat ((with_reducible apply wpHeld_step); (· rfl); (· (intro w hSw; first | (go_simp; rfl) | (fail))); intro K hK; go_simp; (with_reducible refine hK _ ?_); clear hK K)
                refine wpHeld_nil ?_
                refine wpAllH_done (by kernel_rfl) ?_
                clear hS
                go_upto_region 16 with (first | ((with_reducible refine (HPR.out _ hM.below).mono ?_); rintro e w1 ⟨A4, c4', rfl, hb⟩; replace hM := hM.newThing hb; clear hb) | ((first | with_reducible refine at_load ?_ | ((with_reducible refine at_load_g ?_ ?_); (· rfl))); first | refine ll hM ?_ | refine lc hM ?_ | refine lp hM ?_) | ((with_reducible refine at_store ?_); first | (refine lw hM ?_; clear hM; intro wx hM) | (refine ls hM ?_; clear hM; intro wx hM) | (refine lt hM ?_; clear hM; intro wx hM)) | ((with_reducible refine at_alloc ?_); refine lz hM ?_; clear hM; intro gx wx hM) | ((with_reducible refine at_box ?_); refine lb hM ?_; clear hM; intro gx wx hM))
                obtain ⟨g17, hg17⟩ := hM.name1
                subst hg17
                cases hfe : (fe == 0)
                · rw [hfe] at HVF
                  refine wp_region_allHM hM (HeldM [⟨g17, 24, 16, ndC Z1⟩, ⟨g14, 27, 16, ndC Z1⟩, ⟨g9, 27, 16, ndC Z⟩, ⟨g5, 24, 16, ndC lf⟩]) (by kernel_rfl) ?_
                  clear hM
                  intro wd hM
                  have hS := HeldM.of (hM.subL (L' := [_, _, _, _]) (List.Sublist.cons_cons _ (List.Sublist.cons_cons _ (List.Sublist.cons_cons _ (List.Sublist.cons_cons _ (List.nil_sublist _))))))
                  refine wpAllH_takes [0, 1, 2, 3, 6, 7] (by kernel_rfl) (fun _ _ _ _ _ h => h) hS (by kernel_rfl) ?_
                  simp only [pickOps, List.filterMap_cons, List.filterMap_nil, List.getElem?_cons_zero, List.getElem?_cons_succ]
                  repeat (first | ((with_reducible apply wpHeld_stepG); (· rfl); (· (intro w hSw; first | (go_simp; rfl) | ((obtain ⟨_, _, _, hM'⟩ := hSw; exact yields_load (C := fun _ => True) (ql hM') rfl)))); intro K hK; go_simp; (with_reducible refine hK _ ?_); clear hK K) | ((with_reducible apply wpHeld_stepU); (· rfl); intro K hK; go_simp; (with_reducible refine hK _ ?_); clear hK K))
                  refine wpHeld_nil ?_
                  refine wpAllH_one 4 rfl (by kernel_rfl) ?_
                  go_wp2_with fail
                  refine (HO2.out _ hM.below).mono ?_
                  rintro e w1 ⟨A3, c3, rfl, hb⟩
                  replace hM := hM.newThing hb
                  clear hb hS
                  have hS := HeldM.of (hM.subL (L' := [_, _, _, _]) (List.Sublist.cons_cons _ (List.Sublist.cons_cons _ (List.Sublist.cons_cons _ (List.Sublist.cons_cons _ (List.nil_sublist _))))))
                  go_wp2_with fail
                  refine then_normal ⟨hS, ?_⟩
                  refine wpAllH_one 5 rfl (by kernel_rfl) ?_
                  go_wp2_with fail
                  refine (HVF.out _ _ _ (ndT_in (hM.thing _ (List.Mem.head _))) hM.below).mono ?_
                  rintro e w1 ⟨rfl, hb⟩
                  replace hM := hM.step hb
                  clear hb hS
                  have hS := HeldM.of (hM.subL (L' := [_, _, _, _]) (List.Sublist.cons_cons _ (List.Sublist.cons_cons _ (List.Sublist.cons_cons _ (List.Sublist.cons_cons _ (List.nil_sublist _))))))
                  go_wp2_with fail
                  refine then_normal ⟨hS, ?_⟩
                  refine wpAllH_takes [8, 9, 10, 11, 12, 13, 14] (by kernel_rfl) (fun _ _ _ _ _ h => h) hS (by kernel_rfl) ?_
                  simp only [pickOps, List.filterMap_cons, List.filterMap_nil, List.getElem?_cons_zero, List.getElem?_cons_succ]
                  repeat (first | ((with_reducible apply wpHeld_stepG); (· rfl); (· (intro w hSw; first | (go_simp; rfl) | ((obtain ⟨_, _, _, hM'⟩ := hSw; exact yields_load (C := fun _ => True) (ql hM') rfl)))); intro K hK; go_simp; (with_reducible refine hK _ ?_); clear hK K) | ((with_reducible apply wpHeld_stepU); (· rfl); intro K hK; go_simp; (with_reducible refine hK _ ?_); clear hK K))
                  refine wpHeld_nil ?_
                  refine wpAllH_done (by kernel_rfl) ?_
                  go_wp2_with fail
                  go_ret
                  exact ⟨rfl, hM.below⟩
                · rw [hfe] at HVF
                  refine wp_region_allHM hM (HeldM [⟨g17, 24, 16, ndC Z1⟩, ⟨g14, 27, 16, ndC Z1⟩, ⟨g9, 27, 16, ndC Z⟩, ⟨g5, 24, 16, ndC lf⟩]) (by kernel_rfl) ?_
                  clear hM
                  intro wd hM
                  have hS := HeldM.of (hM.subL (L' := [_, _, _, _]) (List.Sublist.cons_cons _ (List.Sublist.cons_cons _ (List.Sublist.cons_cons _ (List.Sublist.cons_cons _ (List.nil_sublist _))))))
                  refine wpAllH_takes [0, 1, 2, 3, 6, 7] (by kernel_rfl) (fun _ _ _ _ _ h => h) hS (by kernel_rfl) ?_
                  simp only [pickOps, List.filterMap_cons, List.filterMap_nil, List.getElem?_cons_zero, List.getElem?_cons_succ]
                  repeat (first | ((with_reducible apply wpHeld_stepG); (· rfl); (· (intro w hSw; first | (go_simp; rfl) | ((obtain ⟨_, _, _, hM'⟩ := hSw; exact yields_load (C := fun _ => True) (ql hM') rfl)))); intro K hK; go_simp; (with_reducible refine hK _ ?_); clear hK K) | ((with_reducible apply wpHeld_stepU); (· rfl); intro K hK; go_simp; (with_reducible refine hK _ ?_); clear hK K))
                  refine wpHeld_nil ?_
                  refine wpAllH_one 4 rfl (by kernel_rfl) ?_
                  go_wp2_with fail
                  refine (HO2.out _ hM.below).mono ?_
                  rintro e w1 ⟨A3, c3, rfl, hb⟩
                  replace hM := hM.newThing hb
                  clear hb hS
                  have hS := HeldM.of (hM.subL (L' := [_, _, _, _]) (List.Sublist.cons_cons _ (List.Sublist.cons_cons _ (List.Sublist.cons_cons _ (List.Sublist.cons_cons _ (List.nil_sublist _))))))
                  go_wp2_with fail
                  refine then_normal ⟨hS, ?_⟩
                  refine wpAllH_one 5 rfl (by kernel_rfl) ?_
                  go_wp2_with fail
                  refine (HVF.out _ _ _ (ndT_in (hM.thing _ (List.Mem.head _))) hM.below).mono ?_
                  rintro e w1 ⟨rfl, hb⟩
                  replace hM := hM.step hb
                  clear hb hS
                  have hS := HeldM.of (hM.subL (L' := [_, _, _, _]) (List.Sublist.cons_cons _ (List.Sublist.cons_cons _ (List.Sublist.cons_cons _ (List.Sublist.cons_cons _ (List.nil_sublist _))))))
                  go_wp2_with fail
                  refine then_normal ⟨hS, ?_⟩
                  refine wpAllH_takes [8, 9, 10, 11, 12, 13, 14] (by kernel_rfl) (fun _ _ _ _ _ h => h) hS (by kernel_rfl) ?_
                  simp only [pickOps, List.filterMap_cons, List.filterMap_nil, List.getElem?_cons_zero, List.getElem?_cons_succ]
                  repeat (first | ((with_reducible apply wpHeld_stepG); (· rfl); (· (intro w hSw; first | (go_simp; rfl) | ((obtain ⟨_, _, _, hM'⟩ := hSw; exact yields_load (C := fun _ => True) (ql hM') rfl)))); intro K hK; go_simp; (with_reducible refine hK _ ?_); clear hK K) | ((with_reducible apply wpHeld_stepU); (· rfl); intro K hK; go_simp; (with_reducible refine hK _ ?_); clear hK K))
                  refine wpHeld_nil ?_
                  refine wpAllH_done (by kernel_rfl) ?_
                  go_wp2_with fail
                  go_ret
                  exact ⟨rfl, hM.below⟩
              · refine lz hM ?_
                clear hM hS
                intro g14 wz hM
                have hS := HeldM.of (hM.subL (L' := [⟨g5, 24, 16, ndC lf⟩]) (List.Sublist.cons _ (List.Sublist.cons _ (List.Sublist.cons_cons _ (List.nil_sublist _)))))
                refine wpList_then ⟨hS, ?_⟩
                refine wpAllH_one 4 rfl (by kernel_rfl) ?_
                go_wp2_with fail
                refine (HFR.out _ _ _ (ndT_in (hM.thing _ (List.Mem.head _))) hM.below).mono ?_
                rintro e w1 ⟨rfl, hb⟩
                replace hM := hM.step hb
                clear hb hS
                have hS := HeldM.of (hM.subL (L' := [⟨g5, 24, 16, ndC lf⟩]) (List.Sublist.cons _ (List.Sublist.cons _ (List.Sublist.cons_cons _ (List.nil_sublist _)))))
                go_wp2_with fail
                refine then_normal ⟨hS, ?_⟩
                refine wpAllH_takes [5, 6, 7] (by kernel_rfl) (fun _ _ _ _ _ h => h) hS (by kernel_rfl) ?_
                simp only [pickOps, List.filterMap_cons, List.filterMap_nil, List.getElem?_cons_zero, List.getElem?_cons_succ]
                repeat ((with_reducible apply wpHeld_step); (· rfl); (· (intro w hSw; first | (go_simp; rfl) | (fail))); intro K hK; go_simp; (with_reducible refine hK _ ?_); clear hK K)
                refine wpHeld_nil ?_
                refine wpAllH_one 9 rfl (by kernel_rfl) ?_
                refine lw hM ?_
                clear hM hS
                intro wy hM
                have hS := HeldM.of (hM.subL (L' := [⟨g5, 24, 16, ndC lf⟩]) (List.Sublist.cons _ (List.Sublist.cons _ (List.Sublist.cons_cons _ (List.nil_sublist _)))))
                refine wpList_then ⟨hS, ?_⟩
                refine wpAllH_takes [10] (by kernel_rfl) (fun _ _ _ _ _ h => h) hS (by kernel_rfl) ?_
                simp only [pickOps, List.filterMap_cons, List.filterMap_nil, List.getElem?_cons_zero, List.getElem?_cons_succ]
                repeat ((with_reducible apply wpHeld_step); (· rfl); (· (intro w hSw; first | (go_simp; rfl) | (fail))); intro K hK; go_simp; (with_reducible refine hK _ ?_); clear hK K)
                refine wpHeld_nil ?_
                refine wpAllH_done (by kernel_rfl) ?_
                clear hS
                go_upto_region 16 with (first | ((with_reducible refine (HPR.out _ hM.below).mono ?_); rintro e w1 ⟨A4, c4', rfl, hb⟩; replace hM := hM.newThing hb; clear hb) | ((first | with_reducible refine at_load ?_ | ((with_reducible refine at_load_g ?_ ?_); (· rfl))); first | refine ll hM ?_ | refine lc hM ?_ | refine lp hM ?_) | ((with_reducible refine at_store ?_); first | (refine lw hM ?_; clear hM; intro wx hM) | (refine ls hM ?_; clear hM; intro wx hM) | (refine lt hM ?_; clear hM; intro wx hM)) | ((with_reducible refine at_alloc ?_); refine lz hM ?_; clear hM; intro gx wx hM) | ((with_reducible refine at_box ?_); refine lb hM ?_; clear hM; intro gx wx hM))
                obtain ⟨g17, hg17⟩ := hM.name1
                subst hg17
                cases hfe : (fe == 0)
                · rw [hfe] at HVF
                  refine wp_region_allHM hM (HeldM [⟨g17, 24, 16, ndC Z1⟩, ⟨g14, 27, 16, ndC Z1⟩, ⟨g9, 27, 16, ndC Z⟩, ⟨g5, 24, 16, ndC lf⟩]) (by kernel_rfl) ?_
                  clear hM
                  intro wd hM
                  have hS := HeldM.of (hM.subL (L' := [_, _, _, _]) (List.Sublist.cons_cons _ (List.Sublist.cons_cons _ (List.Sublist.cons_cons _ (List.Sublist.cons_cons _ (List.nil_sublist _))))))
                  refine wpAllH_takes [0, 1, 2, 3, 6, 7] (by kernel_rfl) (fun _ _ _ _ _ h => h) hS (by kernel_rfl) ?_
                  simp only [pickOps, List.filterMap_cons, List.filterMap_nil, List.getElem?_cons_zero, List.getElem?_cons_succ]
                  repeat (first | ((with_reducible apply wpHeld_stepG); (· rfl); (· (intro w hSw; first | (go_simp; rfl) | ((obtain ⟨_, _, _, hM'⟩ := hSw; exact yields_load (C := fun _ => True) (ql hM') rfl)))); intro K hK; go_simp; (with_reducible refine hK _ ?_); clear hK K) | ((with_reducible apply wpHeld_stepU); (· rfl); intro K hK; go_simp; (with_reducible refine hK _ ?_); clear hK K))
                  refine wpHeld_nil ?_
                  refine wpAllH_one 4 rfl (by kernel_rfl) ?_
                  go_wp2_with fail
                  refine (HO2.out _ hM.below).mono ?_
                  rintro e w1 ⟨A3, c3, rfl, hb⟩
                  replace hM := hM.newThing hb
                  clear hb hS
                  have hS := HeldM.of (hM.subL (L' := [_, _, _, _]) (List.Sublist.cons_cons _ (List.Sublist.cons_cons _ (List.Sublist.cons_cons _ (List.Sublist.cons_cons _ (List.nil_sublist _))))))
                  go_wp2_with fail
                  refine then_normal ⟨hS, ?_⟩
                  refine wpAllH_one 5 rfl (by kernel_rfl) ?_
                  go_wp2_with fail
                  refine (HVF.out _ _ _ (ndT_in (hM.thing _ (List.Mem.head _))) hM.below).mono ?_
                  rintro e w1 ⟨rfl, hb⟩
                  replace hM := hM.step hb
                  clear hb hS
                  have hS := HeldM.of (hM.subL (L' := [_, _, _, _]) (List.Sublist.cons_cons _ (List.Sublist.cons_cons _ (List.Sublist.cons_cons _ (List.Sublist.cons_cons _ (List.nil_sublist _))))))
                  go_wp2_with fail
                  refine then_normal ⟨hS, ?_⟩
                  refine wpAllH_takes [8, 9, 10, 11, 12, 13, 14] (by kernel_rfl) (fun _ _ _ _ _ h => h) hS (by kernel_rfl) ?_
                  simp only [pickOps, List.filterMap_cons, List.filterMap_nil, List.getElem?_cons_zero, List.getElem?_cons_succ]
                  repeat (first | ((with_reducible apply wpHeld_stepG); (· rfl); (· (intro w hSw; first | (go_simp; rfl) | ((obtain ⟨_, _, _, hM'⟩ := hSw; exact yields_load (C := fun _ => True) (ql hM') rfl)))); intro K hK; go_simp; (with_reducible refine hK _ ?_); clear hK K) | ((with_reducible apply wpHeld_stepU); (· rfl); intro K hK; go_simp; (with_reducible refine hK _ ?_); clear hK K))
                  refine wpHeld_nil ?_
                  refine wpAllH_done (by kernel_rfl) ?_
                  go_wp2_with fail
                  go_ret
                  exact ⟨rfl, hM.below⟩
                · rw [hfe] at HVF
                  refine wp_region_allHM hM (HeldM [⟨g17, 24, 16, ndC Z1⟩, ⟨g14, 27, 16, ndC Z1⟩, ⟨g9, 27, 16, ndC Z⟩, ⟨g5, 24, 16, ndC lf⟩]) (by kernel_rfl) ?_
                  clear hM
                  intro wd hM
                  have hS := HeldM.of (hM.subL (L' := [_, _, _, _]) (List.Sublist.cons_cons _ (List.Sublist.cons_cons _ (List.Sublist.cons_cons _ (List.Sublist.cons_cons _ (List.nil_sublist _))))))
                  refine wpAllH_takes [0, 1, 2, 3, 6, 7] (by kernel_rfl) (fun _ _ _ _ _ h => h) hS (by kernel_rfl) ?_
                  simp only [pickOps, List.filterMap_cons, List.filterMap_nil, List.getElem?_cons_zero, List.getElem?_cons_succ]
                  repeat (first | ((with_reducible apply wpHeld_stepG); (· rfl); (· (intro w hSw; first | (go_simp; rfl) | ((obtain ⟨_, _, _, hM'⟩ := hSw; exact yields_load (C := fun _ => True) (ql hM') rfl)))); intro K hK; go_simp; (with_reducible refine hK _ ?_); clear hK K) | ((with_reducible apply wpHeld_stepU); (· rfl); intro K hK; go_simp; (with_reducible refine hK _ ?_); clear hK K))
                  refine wpHeld_nil ?_
                  refine wpAllH_one 4 rfl (by kernel_rfl) ?_
                  go_wp2_with fail
                  refine (HO2.out _ hM.below).mono ?_
                  rintro e w1 ⟨A3, c3, rfl, hb⟩
                  replace hM := hM.newThing hb
                  clear hb hS
                  have hS := HeldM.of (hM.subL (L' := [_, _, _, _]) (List.Sublist.cons_cons _ (List.Sublist.cons_cons _ (List.Sublist.cons_cons _ (List.Sublist.cons_cons _ (List.nil_sublist _))))))
                  go_wp2_with fail
                  refine then_normal ⟨hS, ?_⟩
                  refine wpAllH_one 5 rfl (by kernel_rfl) ?_
                  go_wp2_with fail
                  refine (HVF.out _ _ _ (ndT_in (hM.thing _ (List.Mem.head _))) hM.below).mono ?_
                  rintro e w1 ⟨rfl, hb⟩
                  replace hM := hM.step hb
                  clear hb hS
                  have hS := HeldM.of (hM.subL (L' := [_, _, _, _]) (List.Sublist.cons_cons _ (List.Sublist.cons_cons _ (List.Sublist.cons_cons _ (List.Sublist.cons_cons _ (List.nil_sublist _))))))
                  go_wp2_with fail
                  refine then_normal ⟨hS, ?_⟩
                  refine wpAllH_takes [8, 9, 10, 11, 12, 13, 14] (by kernel_rfl) (fun _ _ _ _ _ h => h) hS (by kernel_rfl) ?_
                  simp only [pickOps, List.filterMap_cons, List.filterMap_nil, List.getElem?_cons_zero, List.getElem?_cons_succ]
                  repeat (first | ((with_reducible apply wpHeld_stepG); (· rfl); (· (intro w hSw; first | (go_simp; rfl) | ((obtain ⟨_, _, _, hM'⟩ := hSw; exact yields_load (C := fun _ => True) (ql hM') rfl)))); intro K hK; go_simp; (with_reducible refine hK _ ?_); clear hK K) | ((with_reducible apply wpHeld_stepU); (· rfl); intro K hK; go_simp; (with_reducible refine hK _ ?_); clear hK K))
                  refine wpHeld_nil ?_
                  refine wpAllH_done (by kernel_rfl) ?_
                  go_wp2_with fail
                  go_ret
                  exact ⟨rfl, hM.below⟩
            · refine lz hM ?_
              clear hM hS
              intro g14 wz hM
              have hS := HeldM.of (hM.subL (L' := [⟨g5, 24, 16, ndC lf⟩]) (List.Sublist.cons _ (List.Sublist.cons _ (List.Sublist.cons_cons _ (List.nil_sublist _)))))
              refine wpList_then ⟨hS, ?_⟩
              refine wpAllH_one 3 rfl (by kernel_rfl) ?_
              go_wp2_with fail
              refine (HO2.out _ hM.below).mono ?_
              rintro e w1 ⟨A3, c3, rfl, hb⟩
              replace hM := hM.newThing hb
              clear hb hS
              have hS := HeldM.of (hM.subL (L' := [⟨g5, 24, 16, ndC lf⟩]) (List.Sublist.cons _ (List.Sublist.cons _ (List.Sublist.cons_cons _ (List.nil_sublist _)))))
              go_wp2_with fail
              refine then_normal ⟨hS, ?_⟩
              refine wpAllH_one 4 rfl (by kernel_rfl) ?_
              go_wp2_with fail
              refine (HFR.out _ _ _ (ndT_in (hM.thing _ (List.Mem.head _))) hM.below).mono ?_
              rintro e w1 ⟨rfl, hb⟩
              replace hM := hM.step hb
              clear hb hS
              have hS := HeldM.of (hM.subL (L' := [⟨g5, 24, 16, ndC lf⟩]) (List.Sublist.cons _ (List.Sublist.cons _ (List.Sublist.cons_cons _ (List.nil_sublist _)))))
              go_wp2_with fail
              refine then_normal ⟨hS, ?_⟩
              refine wpAllH_takes [5, 6, 7] (by kernel_rfl) (fun _ _ _ _ _ h => h) hS (by kernel_rfl) ?_
              simp only [pickOps, List.filterMap_cons, List.filterMap_nil, List.getElem?_cons_zero, List.getElem?_cons_succ]
              repeat ((with_reducible apply wpHeld_step); (· rfl); (· (intro w hSw; first | (go_simp; rfl) | (fail))); intro K hK; go_simp; (with_reducible refine hK _ ?_); clear hK K)
              refine wpHeld_nil ?_
              refine wpAllH_one 9 rfl (by kernel_rfl) ?_
              refine lw hM ?_
              clear hM hS
              intro wy hM
              have hS := HeldM.of (hM.subL (L' := [⟨g5, 24, 16, ndC lf⟩]) (List.Sublist.cons _ (List.Sublist.cons _ (List.Sublist.cons_cons _ (List.nil_sublist _)))))
              refine wpList_then ⟨hS, ?_⟩
              refine wpAllH_takes [10] (by kernel_rfl) (fun _ _ _ _ _ h => h) hS (by kernel_rfl) ?_
              simp only [pickOps, List.filterMap_cons, List.filterMap_nil, List.getElem?_cons_zero, List.getElem?_cons_succ]
              repeat ((with_reducible apply wpHeld_step); (· rfl); (· (intro w hSw; first | (go_simp; rfl) | (fail))); intro K hK; go_simp; (with_reducible refine hK _ ?_); clear hK K)
              refine wpHeld_nil ?_
              refine wpAllH_done (by kernel_rfl) ?_
              clear hS
              go_upto_region 16 with (first | ((with_reducible refine (HPR.out _ hM.below).mono ?_); rintro e w1 ⟨A4, c4', rfl, hb⟩; replace hM := hM.newThing hb; clear hb) | ((first | with_reducible refine at_load ?_ | ((with_reducible refine at_load_g ?_ ?_); (· rfl))); first | refine ll hM ?_ | refine lc hM ?_ | refine lp hM ?_) | ((with_reducible refine at_store ?_); first | (refine lw hM ?_; clear hM; intro wx hM) | (refine ls hM ?_; clear hM; intro wx hM) | (refine lt hM ?_; clear hM; intro wx hM)) | ((with_reducible refine at_alloc ?_); refine lz hM ?_; clear hM; intro gx wx hM) | ((with_reducible refine at_box ?_); refine lb hM ?_; clear hM; intro gx wx hM))
              obtain ⟨g17, hg17⟩ := hM.name1
              subst hg17
              cases hfe : (fe == 0)
              · rw [hfe] at HVF
                refine wp_region_allHM hM (HeldM [⟨g17, 24, 16, ndC Z1⟩, ⟨g14, 27, 16, ndC Z1⟩, ⟨g9, 27, 16, ndC Z⟩, ⟨g5, 24, 16, ndC lf⟩]) (by kernel_rfl) ?_
                clear hM
                intro wd hM
                have hS := HeldM.of (hM.subL (L' := [_, _, _, _]) (List.Sublist.cons_cons _ (List.Sublist.cons_cons _ (List.Sublist.cons_cons _ (List.Sublist.cons_cons _ (List.nil_sublist _))))))
                refine wpAllH_takes [0, 1, 2, 3, 6, 7] (by kernel_rfl) (fun _ _ _ _ _ h => h) hS (by kernel_rfl) ?_
                simp only [pickOps, List.filterMap_cons, List.filterMap_nil, List.getElem?_cons_zero, List.getElem?_cons_succ]
                repeat (first | ((with_reducible apply wpHeld_stepG); (· rfl); (· (intro w hSw; first | (go_simp; rfl) | ((obtain ⟨_, _, _, hM'⟩ := hSw; exact yields_load (C := fun _ => True) (ql hM') rfl)))); intro K hK; go_simp; (with_reducible refine hK _ ?_); clear hK K) | ((with_reducible apply wpHeld_stepU); (· rfl); intro K hK; go_simp; (with_reducible refine hK _ ?_); clear hK K))
                refine wpHeld_nil ?_
                refine wpAllH_one 4 rfl (by kernel_rfl) ?_
                go_wp2_with fail
                refine (HO2.out _ hM.below).mono ?_
                rintro e w1 ⟨A3, c3, rfl, hb⟩
                replace hM := hM.newThing hb
                clear hb hS
                have hS := HeldM.of (hM.subL (L' := [_, _, _, _]) (List.Sublist.cons_cons _ (List.Sublist.cons_cons _ (List.Sublist.cons_cons _ (List.Sublist.cons_cons _ (List.nil_sublist _))))))
                go_wp2_with fail
                refine then_normal ⟨hS, ?_⟩
                refine wpAllH_one 5 rfl (by kernel_rfl) ?_
                go_wp2_with fail
                refine (HVF.out _ _ _ (ndT_in (hM.thing _ (List.Mem.head _))) hM.below).mono ?_
                rintro e w1 ⟨rfl, hb⟩
                replace hM := hM.step hb
                clear hb hS
                have hS := HeldM.of (hM.subL (L' := [_, _, _, _]) (List.Sublist.cons_cons _ (List.Sublist.cons_cons _ (List.Sublist.cons_cons _ (List.Sublist.cons_cons _ (List.nil_sublist _))))))
                go_wp2_with fail
                refine then_normal ⟨hS, ?_⟩
                refine wpAllH_takes [8, 9, 10, 11, 12, 13, 14] (by kernel_rfl) (fun _ _ _ _ _ h => h) hS (by kernel_rfl) ?_
                simp only [pickOps, List.filterMap_cons, List.filterMap_nil, List.getElem?_cons_zero, List.getElem?_cons_succ]
                repeat (first | ((with_reducible apply wpHeld_stepG); (· rfl); (· (intro w hSw; first | (go_simp; rfl) | ((obtain ⟨_, _, _, hM'⟩ := hSw; exact yields_load (C := fun _ => True) (ql hM') rfl)))); intro K hK; go_simp; (with_reducible refine hK _ ?_); clear hK K) | ((with_reducible apply wpHeld_stepU); (· rfl); intro K hK; go_simp; (with_reducible refine hK _ ?_); clear hK K))
                refine wpHeld_nil ?_
                refine wpAllH_done (by kernel_rfl) ?_
                go_wp2_with fail
                go_ret
                exact ⟨rfl, hM.below⟩
              · rw [hfe] at HVF
                refine wp_region_allHM hM (HeldM [⟨g17, 24, 16, ndC Z1⟩, ⟨g14, 27, 16, ndC Z1⟩, ⟨g9, 27, 16, ndC Z⟩, ⟨g5, 24, 16, ndC lf⟩]) (by kernel_rfl) ?_
                clear hM
                intro wd hM
                have hS := HeldM.of (hM.subL (L' := [_, _, _, _]) (List.Sublist.cons_cons _ (List.Sublist.cons_cons _ (List.Sublist.cons_cons _ (List.Sublist.cons_cons _ (List.nil_sublist _))))))
                refine wpAllH_takes [0, 1, 2, 3, 6, 7] (by kernel_rfl) (fun _ _ _ _ _ h => h) hS (by kernel_rfl) ?_
                simp only [pickOps, List.filterMap_cons, List.filterMap_nil, List.getElem?_cons_zero, List.getElem?_cons_succ]
                repeat (first | ((with_reducible apply wpHeld_stepG); (· rfl); (· (intro w hSw; first | (go_simp; rfl) | ((obtain ⟨_, _, _, hM'⟩ := hSw; exact yields_load (C := fun _ => True) (ql hM') rfl)))); intro K hK; go_simp; (with_reducible refine hK _ ?_); clear hK K) | ((with_reducible apply wpHeld_stepU); (· rfl); intro K hK; go_simp; (with_reducible refine hK _ ?_); clear hK K))
                refine wpHeld_nil ?_
                refine wpAllH_one 4 rfl (by kernel_rfl) ?_
                go_wp2_with fail
                refine (HO2.out _ hM.below).mono ?_
                rintro e w1 ⟨A3, c3, rfl, hb⟩
                replace hM := hM.newThing hb
                clear hb hS
                have hS := HeldM.of (hM.subL (L' := [_, _, _, _]) (List.Sublist.cons_cons _ (List.Sublist.cons_cons _ (List.Sublist.cons_cons _ (List.Sublist.cons_cons _ (List.nil_sublist _))))))
                go_wp2_with fail
                refine then_normal ⟨hS, ?_⟩
                refine wpAllH_one 5 rfl (by kernel_rfl) ?_
                go_wp2_with fail
                refine (HVF.out _ _ _ (ndT_in (hM.thing _ (List.Mem.head _))) hM.below).mono ?_
                rintro e w1 ⟨rfl, hb⟩
                replace hM := hM.step hb
                clear hb hS
                have hS := HeldM.of (hM.subL (L' := [_, _, _, _]) (List.Sublist.cons_cons _ (List.Sublist.cons_cons _ (List.Sublist.cons_cons _ (List.Sublist.cons_cons _ (List.nil_sublist _))))))
                go_wp2_with fail
                refine then_normal ⟨hS, ?_⟩
                refine wpAllH_takes [8, 9, 10, 11, 12, 13, 14] (by kernel_rfl) (fun _ _ _ _ _ h => h) hS (by kernel_rfl) ?_
                simp only [pickOps, List.filterMap_cons, List.filterMap_nil, List.getElem?_cons_zero, List.getElem?_cons_succ]
                repeat (first | ((with_reducible apply wpHeld_stepG); (· rfl); (· (intro w hSw; first | (go_simp; rfl) | ((obtain ⟨_, _, _, hM'⟩ := hSw; exact yields_load (C := fun _ => True) (ql hM') rfl)))); intro K hK; go_simp; (with_reducible refine hK _ ?_); clear hK K) | ((with_reducible apply wpHeld_stepU); (· rfl); intro K hK; go_simp; (with_reducible refine hK _ ?_); clear hK K))
                refine wpHeld_nil ?_
                refine wpAllH_done (by kernel_rfl) ?_
                go_wp2_with fail
                go_ret
                exact ⟨rfl, hM.below⟩
end Go.Proofs.YtcfojkecmchbdaaDoor
