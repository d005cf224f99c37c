/- Contracts of nodes, public, Root, Verify of signatures. -/
import Derived.Test.YtbbdnlcjjcmllaaDoorSgg
namespace Go.Proofs.YtbbdnlcjjcmllaaDoor
open Go Go.RowKit Go.Bul Go.Thg Go.Lin
def rcN (k : Nat) (d : Nd) (ch : Ch) : Nd := ⟨Once.recV k d.val ch.val, Once.recV_length _ _ _, bytes_half _⟩
/-- What a signature of a digest leads to. -/
def rootS (k : Nat) (d : Nd) (ch : Ch) (path : List Nd) : Nd := (fromF (leafN (k : Int) (rcN k d ch).val) (k : Int) path).1
theorem arr_a16 : ArrTy Tryd.prog 23 := ⟨⟨_, _, 1, Tryd.underlying23, by kernel_rfl⟩⟩
set_option maxRecDepth 20000 in
set_option maxHeartbeats 1000000 in
theorem gpublic_any (k : Nat) (ch : Ch) (A : Option Addr) (n c : Nat) (d : Nd) (w : World) (hk : k ≤ 65535) (hT : Tab w) :
    Calls Tryd.prog 27 #[.agg (sigC (k : Nat) ch A n c), .agg (ndC d)] w fun e w' => e = .returned (.agg (ndC (rcN k d ch))) ∧ Below w.heap.size w w' := by
  have hM := Mem.start [] w
  have HS := Lib.hid (sigC_size (k : Nat) ch A n c)
  have H0 := Lib.hid (sigC_0 (k : Nat) ch A n c)
  have HC := Lib.hid (sigC_c (k : Nat) ch A n c)
  have HR := Lib.hid (fun w' (hb : Below w.heap.size w w') => Once.recover_yes d.val ch.val k (k : Nat) w' d.len d.byt ch.len ch.byt hk rfl (hT.keep hb))
  change Hid (∀ w' (hb : Below w.heap.size w w'), Calls _ _ #[.int .i64 (k : Nat), .agg (ndC d), .agg (chC ch)] w' fun e w'' => e = .returned (.tuple #[.agg (ndC (rcN k d ch)), .int .i64 0]) ∧ _) at HR
  generalize rcN k d ch = Z at HR ⊢
  generalize sigC (k : Nat) ch A n c = Y at HS H0 HC ⊢
  clear hk hT
  go_enter Tryd.func27, Tryd.ntmps27
  go_wp2_with (first | ((with_reducible refine at_box ?_); first | (refine slb hM ?_ (hty := row_sgn) (hn := HS.out); clear hM; intro g2 w1 hM) | (refine slb hM ?_ (hty := row_a16) (hn := ndC_size _); clear hM; intro g3 w1 hM)) | ((with_reducible refine at_load ?_); first | refine sll hM ?_ (hty := row_a16) | refine slc hM ?_ (hv := H0.out) | refine slp hM ?_ (hX := HC.out) (hty := row_a560)) | ((with_reducible refine (HR.out _ hM.below).mono ?_); rintro e w1 ⟨rfl, hb⟩; replace hM := hM.step hb; clear hb) | ((first | with_reducible refine at_load ?_ | ((with_reducible refine at_load_g ?_ ?_); (· rfl))); first | refine sll hM ?_ | refine slc hM ?_ | refine slp hM ?_) | ((with_reducible refine at_store ?_); first | (refine slw hM ?_; clear hM; intro wx hM) | (refine sls hM ?_; clear hM; intro wx hM) | (refine slt hM ?_; clear hM; intro wx hM)) | ((with_reducible refine at_alloc ?_); refine slz hM ?_; clear hM; intro gx wx hM) | ((with_reducible refine at_box ?_); refine slb hM ?_; clear hM; intro gx wx hM))
  exact bodyPost_ret (results_mem_cell hM rfl (by rfl) (by repeat (first | exact List.Mem.head _ | apply List.Mem.tail)) row_a16) rfl ⟨rfl, hM.below⟩
set_option maxRecDepth 20000 in
set_option maxHeartbeats 1000000 in
theorem gnodes_any (leaf : Int) (ch : Ch) (A : Option Addr) (n c : Nat) (path : List Nd) (w : World) (hr : NIn w A n path) (hn : n ≤ 1000000) :
    Calls Tryd.prog 31 #[.agg (sigC leaf ch A n c)] w fun e w' => ∃ B c', e = .returned (.slice B n c') ∧ Becomes [] w (ndT (.slice B n c') path) w' := by
  have hM := Mem.start [] w
  have HS := Lib.hid (sigC_size leaf ch A n c)
  have HP := Lib.hid (sigC_p leaf ch A n c)
  have HL := Lib.hid hr.len
  have HR := Lib.hid hr
  have n0 : (n : Int) ≤ 1000000 := by omega
  generalize sigC leaf ch A n c = Y at HS HP ⊢
  clear hr
  go_enter Tryd.func31, Tryd.ntmps31
  go_wp2_with (first | ((with_reducible refine at_box ?_); refine slb hM ?_ (hty := row_sgn) (hn := HS.out); clear hM; intro g2 w1 hM) | ((with_reducible refine at_load ?_); refine slc hM ?_ (hv := HP.out)))
  have M0 := Lib.hid ((hM.subL (List.nil_sublist _)).newThing (nbecomes_zero none (KeptBut.refl _ _)))
  clear hM
  go_loopw [9, 3] (fun i p wr => ∃ (j : Nat) (E : Option Addr) (e2 : Nat), j ≤ n ∧ i = .int .i64 (j : Nat) ∧ p = .slice E j e2 ∧ Mem [] w [] [ndT (.slice E j e2) (path.take j)] wr) (fun i _ _ => n - (intOf i).toNat)
  case atStart => exact ⟨0, none, 0, by omega, rfl, rfl, M0.out⟩
  case round =>
    clear M0
    obtain ⟨j, E, e2, hj, rfl, rfl, hM⟩ := hrel
    by_cases hlt : j < n
    · have hjl : j < path.length := by have := HL.out; omega
      obtain ⟨go, oo, rfl, _, h6⟩ := HR.out.row j hjl
      have h5 := Lib.hid (fun w' (hb : Below w.heap.size w w') => NIn.cell (HR.out.keep hb) j hjl)
      have htk : path.take (j + 1) = path.take j ++ [path[j]] := List.take_succ_eq_append_getElem hjl
      have hcl : (path.take j).length = j := by rw [List.length_take]; omega
      generalize path[j] = x at h5 htk
      generalize path.take j = cur at htk hcl hM
      have h63 : cur.length + [x].length ≤ 1000000000 := by simp; omega
      have HTK := Lib.hid htk
      have HCL := Lib.hid hcl
      have q0 : (0 : Int) ≤ (j : Int) := Int.natCast_nonneg _
      have q1 : (j : Int) < (n : Int) := by omega
      clear htk hcl h6 hjl
      go_wp2_with (first | ((with_reducible refine at_load ?_); first | refine lr (h5.out _ hM.below) ?_ (hty := row_a16) | refine sll hM ?_) | (refine lbn1 hM ?_; clear hM; intro g1 w5 hM) | ((with_reducible refine at_append ?_); refine lan (src_nd1 hM (List.Mem.head _)) hM h63 ?_; clear hM; intro A3 N3 c3 wx hN3 hM) | ((first | with_reducible refine at_load ?_ | ((with_reducible refine at_load_g ?_ ?_); (· rfl))); first | refine sll hM ?_ | refine slc hM ?_ | refine slp hM ?_) | ((with_reducible refine at_store ?_); first | (refine slw hM ?_; clear hM; intro wx hM) | (refine sls hM ?_; clear hM; intro wx hM) | (refine slt hM ?_; clear hM; intro wx hM)) | ((with_reducible refine at_alloc ?_); refine slz hM ?_; clear hM; intro gx wx hM) | ((with_reducible refine at_box ?_); refine slb hM ?_; clear hM; intro gx wx hM))
      obtain rfl : N3 = j + 1 := by have := hN3.out; have := HCL.out; simp at *; omega
      exact ⟨⟨j + 1, A3, c3, by omega, by go_num, rfl, by rw [HTK.out]; exact hM.subL (List.nil_sublist _)⟩, by simp [intOf]; omega⟩
    · obtain rfl : j = n := by omega
      rw [List.take_of_length_le (by have := HL.out; omega)] at hM
      clear hlt hj
      go_wp2_with fail
      go_ret
      exact ⟨E, e2, rfl, hM.becomes (by exact List.Mem.head _)⟩
set_option maxRecDepth 20000 in
set_option maxHeartbeats 4000000 in
theorem groot_yes (k : Nat) (ch : Ch) (A : Option Addr) (n c : Nat) (path : List Nd) (d : Nd) (w : World) (hr : NIn w A n path) (hc : sgE (k : Nat) n = 0) (hT : Tab w) :
    Calls Tryd.prog 26 #[.agg (ndC d), .agg (sigC (k : Nat) ch A n c)] w fun e w' => e = .returned (.tuple #[.agg (ndC (rootS k d ch path)), .int .i64 0]) ∧ Below w.heap.size w w' := by
  have hM := Mem.start [] w
  have hl := hr.len
  have hh : hE (n : Nat) = 0 ∧ 0 ≤ (k : Int) ∧ (k : Int) < 2 ^ n := by
    unfold sgE at hc
    split at hc
    · assumption
    · cases hc
  obtain ⟨h1, h8⟩ := hE_nat hh.1
  have hp : 2 ^ n ≤ 2 ^ 8 := Nat.pow_le_pow_right (by decide) h8
  have hp2 : (2 : Int) ^ n = ((2 ^ n : Nat) : Int) := by simp
  have hk : k < 256 := by omega
  have HS := Lib.hid (sigC_size (k : Nat) ch A n c)
  have H0 := Lib.hid (sigC_0 (k : Nat) ch A n c)
  have HC := Lib.hid (fun w => gcheck_any (k : Nat) ch A n c w)
  rw [hc] at HC
  have HPB := Lib.hid (fun w' (hb : Below w.heap.size w w') => gpublic_any k ch A n c d w' (by omega) (hT.keep hb))
  have HND := Lib.hid (fun w' (hb : Below w.heap.size w w') => gnodes_any (k : Nat) ch A n c path w' (hr.keep hb) (by omega))
  have HLF := Lib.hid (fun A' n' c' w' (hr : Reads w' 1 A' n' (vals .u8 (rcN k d ch).val)) (hn : n' ≤ 1000) (hb : Below w.heap.size w w') => leaf_any (k : Nat) A' n' c' (rcN k d ch).val w' hr (rcN k d ch).byt hn (hT.keep hb))
  have hz : (fromF (leafN (k : Int) (rcN k d ch).val) (k : Int) path).2 = 0 := by
    unfold fromF
    rw [if_neg (by omega), if_neg (by rw [← hl]; omega)]
  have HFR := Lib.hid (fun A' c' w' (hr : NIn w' A' n path) (hb : Below w.heap.size w w') => from_any (leafN (k : Int) (rcN k d ch).val) (k : Nat) A' n c' path w' hr (by omega) (hT.keep hb))
  rw [hz] at HFR
  unfold rootS
  generalize (fromF (leafN (k : Int) (rcN k d ch).val) (k : Int) path).1 = Z at HFR ⊢
  generalize leafN (k : Int) (rcN k d ch).val = ZL at HFR HLF
  generalize rcN k d ch = V at HPB HLF
  generalize sigC (k : Nat) ch A n c = Y at HS H0 HC HPB HND ⊢
  clear hr hc hT hl hh h1 h8 hp hp2 hz
  go_enter Tryd.func26, Tryd.ntmps26
  go_upto_region 5 with (first | ((with_reducible refine at_box ?_); first | (refine slb hM ?_ (hty := row_sgn) (hn := HS.out); clear hM; intro g3 w1 hM) | (refine slb hM ?_ (hty := row_a16) (hn := ndC_size _); clear hM; intro g2 w1 hM)) | ((with_reducible refine (HC.out _).mono ?_); rintro e w1 ⟨rfl, hb⟩; replace hM := hM.step hb; clear hb) | ((with_reducible refine (HPB.out _ hM.below).mono ?_); rintro e w1 ⟨rfl, hb⟩; replace hM := hM.step hb; clear hb) | ((with_reducible refine at_load ?_); first | refine sll hM ?_ (hty := row_a16) | refine sll hM ?_ (hty := row_sgn)) | ((first | with_reducible refine at_load ?_ | ((with_reducible refine at_load_g ?_ ?_); (· rfl))); first | refine sll hM ?_ | refine slc hM ?_ | refine slp hM ?_) | ((with_reducible refine at_store ?_); first | (refine slw hM ?_; clear hM; intro wx hM) | (refine sls hM ?_; clear hM; intro wx hM) | (refine slt hM ?_; clear hM; intro wx hM)) | ((with_reducible refine at_alloc ?_); refine slz hM ?_; clear hM; intro gx wx hM) | ((with_reducible refine at_box ?_); refine slb hM ?_; clear hM; intro gx wx hM))
  obtain ⟨g7, hg7⟩ := hM.name1
  obtain ⟨g3', hg3⟩ := (hM.subL (List.Sublist.cons _ (List.sublist_cons_self _ _))).name1
  subst hg7 hg3
  refine wp_region_allHM hM (HeldM [⟨g3', 37, 562, Y⟩]) (by kernel_rfl) ?_
  clear hM
  intro wd hM
  have hS := HeldM.of (hM.subL (L' := [⟨g3', 37, 562, Y⟩]) (List.Sublist.cons _ (List.Sublist.cons _ (List.Sublist.cons_cons _ (List.nil_sublist _)))))
  refine wpAllH_takes [0, 2, 4, 1, 5, 6] (by kernel_rfl) (fun _ _ _ _ _ h => h) hS (by kernel_rfl) ?_
  simp only [pickOps, List.filterMap_cons, List.filterMap_nil, List.getElem?_cons_zero, List.getElem?_cons_succ]
  repeat ((with_reducible apply wpHeld_step); (· rfl); (· (intro w hSw; first | (go_simp; rfl) | ((obtain ⟨_, _, _, hM'⟩ := hSw; first | exact yields_load (C := fun _ => True) (sqc hM' (hv := H0.out)) rfl | exact yields_load (C := fun _ => True) (sql hM' (hty := row_sgn)) rfl)))); intro K hK; go_simp; (with_reducible refine hK _ ?_); clear hK K)
  refine wpHeld_nil ?_
  refine wpAllH_two 3 12 rfl rfl (by kernel_rfl) ?_ ?_
  · go_wp2_with fail
    refine (HLF.out _ _ _ _ (nd_reads hM (List.Mem.head _)) (by decide) hM.below).mono ?_
    rintro e w1 ⟨rfl, hb⟩
    replace hM := hM.step hb
    clear hb hS
    have hS := HeldM.of (hM.subL (L' := [⟨g3', 37, 562, Y⟩]) (List.Sublist.cons _ (List.Sublist.cons _ (List.Sublist.cons_cons _ (List.nil_sublist _)))))
    go_wp2_with fail
    refine then_normal ⟨hS, ?_⟩
    refine wpAllH_two 7 12 rfl rfl (by kernel_rfl) ?_ ?_
    · go_wp2_with fail
      refine (HND.out _ hM.below).mono ?_
      rintro e w1 ⟨A5, c5, rfl, hb⟩
      replace hM := hM.newThing hb
      clear hb hS
      have hS := HeldM.of (hM.subL (L' := [⟨g3', 37, 562, Y⟩]) (List.Sublist.cons _ (List.Sublist.cons _ (List.Sublist.cons_cons _ (List.nil_sublist _)))))
      go_wp2_with fail
      refine then_normal ⟨hS, ?_⟩
      refine wpAllH_two 8 12 rfl rfl (by kernel_rfl) ?_ ?_
      · go_wp2_with fail
        refine (HFR.out _ _ _ (ndT_in (hM.thing _ (List.Mem.head _))) hM.below).mono ?_
        rintro e w1 ⟨rfl, hb⟩
        replace hM := hM.step hb
        clear hb hS
        have hS := HeldM.of (hM.subL (L' := [⟨g3', 37, 562, Y⟩]) (List.Sublist.cons _ (List.Sublist.cons _ (List.Sublist.cons_cons _ (List.nil_sublist _)))))
        go_wp2_with fail
        refine then_normal ⟨hS, ?_⟩
        refine wpAllH_takes [9, 10, 11] (by kernel_rfl) (fun _ _ _ _ _ h => h) hS (by kernel_rfl) ?_
        simp only [pickOps, List.filterMap_cons, List.filterMap_nil, List.getElem?_cons_zero, List.getElem?_cons_succ]
        repeat ((with_reducible apply wpHeld_step); (· rfl); (· (intro w hSw; first | (go_simp; rfl) | (fail))); intro K hK; go_simp; (with_reducible refine hK _ ?_); clear hK K)
        refine wpHeld_nil ?_
        refine wpAllH_one 12 rfl (by kernel_rfl) ?_
        refine slz hM ?_ (hz := zero_nd)
        clear hM hS
        intro g8 wz hM
        have hS := HeldM.of (hM.subL (L' := [⟨g3', 37, 562, Y⟩]) (List.Sublist.cons _ (List.Sublist.cons _ (List.Sublist.cons _ (List.Sublist.cons_cons _ (List.nil_sublist _))))))
        refine wpList_then ⟨hS, ?_⟩
        refine wpAllH_one 13 rfl (by kernel_rfl) ?_
        refine slw hM ?_
        clear hM hS
        intro wy hM
        have hS := HeldM.of (hM.subL (L' := [⟨g3', 37, 562, Y⟩]) (List.Sublist.cons _ (List.Sublist.cons _ (List.Sublist.cons _ (List.Sublist.cons_cons _ (List.nil_sublist _))))))
        refine wpList_then ⟨hS, ?_⟩
        refine wpAllH_takes [14] (by kernel_rfl) (fun _ _ _ _ _ h => h) hS (by kernel_rfl) ?_
        simp only [pickOps, List.filterMap_cons, List.filterMap_nil, List.getElem?_cons_zero, List.getElem?_cons_succ]
        repeat ((with_reducible apply wpHeld_step); (· rfl); (· (intro w hSw; first | (go_simp; rfl) | (fail))); intro K hK; go_simp; (with_reducible refine hK _ ?_); clear hK K)
        refine wpHeld_nil ?_
        refine wpAllH_done (by kernel_rfl) ?_
        clear hS
        go_wp2_with (first | ((first | with_reducible refine at_load ?_ | ((with_reducible refine at_load_g ?_ ?_); (· rfl))); first | refine sll hM ?_ | refine slc hM ?_ | refine slp hM ?_) | ((with_reducible refine at_store ?_); first | (refine slw hM ?_; clear hM; intro wx hM) | (refine sls hM ?_; clear hM; intro wx hM) | (refine slt hM ?_; clear hM; intro wx hM)) | ((with_reducible refine at_alloc ?_); refine slz hM ?_; clear hM; intro gx wx hM) | ((with_reducible refine at_box ?_); refine slb hM ?_; clear hM; intro gx wx hM))
        exact bodyPost_ret (results_mem_cell_tmp hM rfl (by rfl) (by repeat (first | exact List.Mem.head _ | apply List.Mem.tail)) row_a16 (by rfl)) rfl ⟨rfl, hM.below⟩
      · refine slz hM ?_ (hz := zero_nd)
        clear hM hS
        intro g8 wz hM
        have hS := HeldM.of (hM.subL (L' := [⟨g3', 37, 562, Y⟩]) (List.Sublist.cons _ (List.Sublist.cons _ (List.Sublist.cons _ (List.Sublist.cons_cons _ (List.nil_sublist _))))))
        refine wpList_then ⟨hS, ?_⟩
        refine wpAllH_one 8 rfl (by kernel_rfl) ?_
        go_wp2_with fail
        refine (HFR.out _ _ _ (ndT_in (hM.thing _ (List.Mem.head _))) hM.below).mono ?_
        rintro e w1 ⟨rfl, hb⟩
        replace hM := hM.step hb
        clear hb hS
        have hS := HeldM.of (hM.subL (L' := [⟨g3', 37, 562, Y⟩]) (List.Sublist.cons _ (List.Sublist.cons _ (List.Sublist.cons _ (List.Sublist.cons_cons _ (List.nil_sublist _))))))
        go_wp2_with fail
        refine then_normal ⟨hS, ?_⟩
        refine wpAllH_takes [9, 10, 11] (by kernel_rfl) (fun _ _ _ _ _ h => h) hS (by kernel_rfl) ?_
        simp only [pickOps, List.filterMap_cons, List.filterMap_nil, List.getElem?_cons_zero, List.getElem?_cons_succ]
        repeat ((with_reducible apply wpHeld_step); (· rfl); (· (intro w hSw; first | (go_simp; rfl) | (fail))); intro K hK; go_simp; (with_reducible refine hK _ ?_); clear hK K)
        refine wpHeld_nil ?_
        refine wpAllH_one 13 rfl (by kernel_rfl) ?_
        refine slw hM ?_
        clear hM hS
        intro wy hM
        have hS := HeldM.of (hM.subL (L' := [⟨g3', 37, 562, Y⟩]) (List.Sublist.cons _ (List.Sublist.cons _ (List.Sublist.cons _ (List.Sublist.cons_cons _ (List.nil_sublist _))))))
        refine wpList_then ⟨hS, ?_⟩
        refine wpAllH_takes [14] (by kernel_rfl) (fun _ _ _ _ _ h => h) hS (by kernel_rfl) ?_
        simp only [pickOps, List.filterMap_cons, List.filterMap_nil, List.getElem?_cons_zero, List.getElem?_cons_succ]
        repeat ((with_reducible apply wpHeld_step); (· rfl); (· (intro w hSw; first | (go_simp; rfl) | (fail))); intro K hK; go_simp; (with_reducible refine hK _ ?_); clear hK K)
        refine wpHeld_nil ?_
        refine wpAllH_done (by kernel_rfl) ?_
        clear hS
        go_wp2_with (first | ((first | with_reducible refine at_load ?_ | ((with_reducible refine at_load_g ?_ ?_); (· rfl))); first | refine sll hM ?_ | refine slc hM ?_ | refine slp hM ?_) | ((with_reducible refine at_store ?_); first | (refine slw hM ?_; clear hM; intro wx hM) | (refine sls hM ?_; clear hM; intro wx hM) | (refine slt hM ?_; clear hM; intro wx hM)) | ((with_reducible refine at_alloc ?_); refine slz hM ?_; clear hM; intro gx wx hM) | ((with_reducible refine at_box ?_); refine slb hM ?_; clear hM; intro gx wx hM))
        exact bodyPost_ret (results_mem_cell_tmp hM rfl (by rfl) (by repeat (first | exact List.Mem.head _ | apply List.Mem.tail)) row_a16 (by rfl)) rfl ⟨rfl, hM.below⟩
    · refine slz hM ?_ (hz := zero_nd)
      clear hM hS
      intro g8 wz hM
      have hS := HeldM.of (hM.subL (L' := [⟨g3', 37, 562, Y⟩]) (List.Sublist.cons _ (List.Sublist.cons _ (List.Sublist.cons _ (List.Sublist.cons_cons _ (List.nil_sublist _))))))
      refine wpList_then ⟨hS, ?_⟩
      refine wpAllH_one 7 rfl (by kernel_rfl) ?_
      go_wp2_with fail
      refine (HND.out _ hM.below).mono ?_
      rintro e w1 ⟨A5, c5, rfl, hb⟩
      replace hM := hM.newThing hb
      clear hb hS
      have hS := HeldM.of (hM.subL (L' := [⟨g3', 37, 562, Y⟩]) (List.Sublist.cons _ (List.Sublist.cons _ (List.Sublist.cons _ (List.Sublist.cons_cons _ (List.nil_sublist _))))))
      go_wp2_with fail
      refine then_normal ⟨hS, ?_⟩
      refine wpAllH_one 8 rfl (by kernel_rfl) ?_
      go_wp2_with fail
      refine (HFR.out _ _ _ (ndT_in (hM.thing _ (List.Mem.head _))) hM.below).mono ?_
      rintro e w1 ⟨rfl, hb⟩
      replace hM := hM.step hb
      clear hb hS
      have hS := HeldM.of (hM.subL (L' := [⟨g3', 37, 562, Y⟩]) (List.Sublist.cons _ (List.Sublist.cons _ (List.Sublist.cons _ (List.Sublist.cons_cons _ (List.nil_sublist _))))))
      go_wp2_with fail
      refine then_normal ⟨hS, ?_⟩
      refine wpAllH_takes [9, 10, 11] (by kernel_rfl) (fun _ _ _ _ _ h => h) hS (by kernel_rfl) ?_
      simp only [pickOps, List.filterMap_cons, List.filterMap_nil, List.getElem?_cons_zero, List.getElem?_cons_succ]
      repeat ((with_reducible apply wpHeld_step); (· rfl); (· (intro w hSw; first | (go_simp; rfl) | (fail))); intro K hK; go_simp; (with_reducible refine hK _ ?_); clear hK K)
      refine wpHeld_nil ?_
      refine wpAllH_one 13 rfl (by kernel_rfl) ?_
      refine slw hM ?_
      clear hM hS
      intro wy hM
      have hS := HeldM.of (hM.subL (L' := [⟨g3', 37, 562, Y⟩]) (List.Sublist.cons _ (List.Sublist.cons _ (List.Sublist.cons _ (List.Sublist.cons_cons _ (List.nil_sublist _))))))
      refine wpList_then ⟨hS, ?_⟩
      refine wpAllH_takes [14] (by kernel_rfl) (fun _ _ _ _ _ h => h) hS (by kernel_rfl) ?_
      simp only [pickOps, List.filterMap_cons, List.filterMap_nil, List.getElem?_cons_zero, List.getElem?_cons_succ]
      repeat ((with_reducible apply wpHeld_step); (· rfl); (· (intro w hSw; first | (go_simp; rfl) | (fail))); intro K hK; go_simp; (with_reducible refine hK _ ?_); clear hK K)
      refine wpHeld_nil ?_
      refine wpAllH_done (by kernel_rfl) ?_
      clear hS
      go_wp2_with (first | ((first | with_reducible refine at_load ?_ | ((with_reducible refine at_load_g ?_ ?_); (· rfl))); first | refine sll hM ?_ | refine slc hM ?_ | refine slp hM ?_) | ((with_reducible refine at_store ?_); first | (refine slw hM ?_; clear hM; intro wx hM) | (refine sls hM ?_; clear hM; intro wx hM) | (refine slt hM ?_; clear hM; intro wx hM)) | ((with_reducible refine at_alloc ?_); refine slz hM ?_; clear hM; intro gx wx hM) | ((with_reducible refine at_box ?_); refine slb hM ?_; clear hM; intro gx wx hM))
      exact bodyPost_ret (results_mem_cell_tmp hM rfl (by rfl) (by repeat (first | exact List.Mem.head _ | apply List.Mem.tail)) row_a16 (by rfl)) rfl ⟨rfl, hM.below⟩
  · refine slz hM ?_ (hz := zero_nd)
    clear hM hS
    intro g8 wz hM
    have hS := HeldM.of (hM.subL (L' := [⟨g3', 37, 562, Y⟩]) (List.Sublist.cons _ (List.Sublist.cons _ (List.Sublist.cons _ (List.Sublist.cons_cons _ (List.nil_sublist _))))))
    refine wpList_then ⟨hS, ?_⟩
    refine wpAllH_one 3 rfl (by kernel_rfl) ?_
    go_wp2_with fail
    refine (HLF.out _ _ _ _ (nd_reads hM (List.Mem.tail _ (List.Mem.head _))) (by decide) hM.below).mono ?_
    rintro e w1 ⟨rfl, hb⟩
    replace hM := hM.step hb
    clear hb hS
    have hS := HeldM.of (hM.subL (L' := [⟨g3', 37, 562, Y⟩]) (List.Sublist.cons _ (List.Sublist.cons _ (List.Sublist.cons _ (List.Sublist.cons_cons _ (List.nil_sublist _))))))
    go_wp2_with fail
    refine then_normal ⟨hS, ?_⟩
    refine wpAllH_one 7 rfl (by kernel_rfl) ?_
    go_wp2_with fail
    refine (HND.out _ hM.below).mono ?_
    rintro e w1 ⟨A5, c5, rfl, hb⟩
    replace hM := hM.newThing hb
    clear hb hS
    have hS := HeldM.of (hM.subL (L' := [⟨g3', 37, 562, Y⟩]) (List.Sublist.cons _ (List.Sublist.cons _ (List.Sublist.cons _ (List.Sublist.cons_cons _ (List.nil_sublist _))))))
    go_wp2_with fail
    refine then_normal ⟨hS, ?_⟩
    refine wpAllH_one 8 rfl (by kernel_rfl) ?_
    go_wp2_with fail
    refine (HFR.out _ _ _ (ndT_in (hM.thing _ (List.Mem.head _))) hM.below).mono ?_
    rintro e w1 ⟨rfl, hb⟩
    replace hM := hM.step hb
    clear hb hS
    have hS := HeldM.of (hM.subL (L' := [⟨g3', 37, 562, Y⟩]) (List.Sublist.cons _ (List.Sublist.cons _ (List.Sublist.cons _ (List.Sublist.cons_cons _ (List.nil_sublist _))))))
    go_wp2_with fail
    refine then_normal ⟨hS, ?_⟩
    refine wpAllH_takes [9, 10, 11] (by kernel_rfl) (fun _ _ _ _ _ h => h) hS (by kernel_rfl) ?_
    simp only [pickOps, List.filterMap_cons, List.filterMap_nil, List.getElem?_cons_zero, List.getElem?_cons_succ]
    repeat ((with_reducible apply wpHeld_step); (· rfl); (· (intro w hSw; first | (go_simp; rfl) | (fail))); intro K hK; go_simp; (with_reducible refine hK _ ?_); clear hK K)
    refine wpHeld_nil ?_
    refine wpAllH_one 13 rfl (by kernel_rfl) ?_
    refine slw hM ?_
    clear hM hS
    intro wy hM
    have hS := HeldM.of (hM.subL (L' := [⟨g3', 37, 562, Y⟩]) (List.Sublist.cons _ (List.Sublist.cons _ (List.Sublist.cons _ (List.Sublist.cons_cons _ (List.nil_sublist _))))))
    refine wpList_then ⟨hS, ?_⟩
    refine wpAllH_takes [14] (by kernel_rfl) (fun _ _ _ _ _ h => h) hS (by kernel_rfl) ?_
    simp only [pickOps, List.filterMap_cons, List.filterMap_nil, List.getElem?_cons_zero, List.getElem?_cons_succ]
    repeat ((with_reducible apply wpHeld_step); (· rfl); (· (intro w hSw; first | (go_simp; rfl) | (fail))); intro K hK; go_simp; (with_reducible refine hK _ ?_); clear hK K)
    refine wpHeld_nil ?_
    refine wpAllH_done (by kernel_rfl) ?_
    clear hS
    go_wp2_with (first | ((first | with_reducible refine at_load ?_ | ((with_reducible refine at_load_g ?_ ?_); (· rfl))); first | refine sll hM ?_ | refine slc hM ?_ | refine slp hM ?_) | ((with_reducible refine at_store ?_); first | (refine slw hM ?_; clear hM; intro wx hM) | (refine sls hM ?_; clear hM; intro wx hM) | (refine slt hM ?_; clear hM; intro wx hM)) | ((with_reducible refine at_alloc ?_); refine slz hM ?_; clear hM; intro gx wx hM) | ((with_reducible refine at_box ?_); refine slb hM ?_; clear hM; intro gx wx hM))
    exact bodyPost_ret (results_mem_cell_tmp hM rfl (by rfl) (by repeat (first | exact List.Mem.head _ | apply List.Mem.tail)) row_a16 (by rfl)) rfl ⟨rfl, hM.below⟩
set_option maxRecDepth 20000 in
set_option maxHeartbeats 1000000 in
theorem groot_no (leaf : Int) (ch : Ch) (A : Option Addr) (n c : Nat) (d : Nd) (w : World) (hc : sgE leaf n ≠ 0) :
    Calls Tryd.prog 26 #[.agg (ndC d), .agg (sigC leaf ch A n c)] w fun e w' => e = .returned (.tuple #[.agg (ndC nd0), .int .i64 (sgE leaf n)]) ∧ Below w.heap.size w w' := by
  have hM := Mem.start [] w
  have HS := Lib.hid (sigC_size leaf ch A n c)
  have HC := Lib.hid (fun w => gcheck_any leaf ch A n c w)
  have q1 : (sgE leaf n != 0) = true := by simpa using hc
  generalize sgE leaf n = e1 at q1 HC ⊢
  generalize sigC leaf ch A n c = Y at HS HC ⊢
  clear hc
  go_enter Tryd.func26, Tryd.ntmps26
  go_wp2_with (first | ((with_reducible refine at_box ?_); first | (refine slb hM ?_ (hty := row_sgn) (hn := HS.out); clear hM; intro g3 w1 hM) | (refine slb hM ?_ (hty := row_a16) (hn := ndC_size _); clear hM; intro g2 w1 hM)) | ((with_reducible refine (HC.out _).mono ?_); rintro e w1 ⟨rfl, hb⟩; replace hM := hM.step hb; clear hb) | ((with_reducible refine at_load ?_); refine sll hM ?_ (hty := row_sgn)) | ((with_reducible refine at_build ?_); refine wpList_build_zero rfl _ (by rfl) _ _ zero_a16 arr_a16 ?_) | ((first | with_reducible refine at_load ?_ | ((with_reducible refine at_load_g ?_ ?_); (· rfl))); first | refine sll hM ?_ | refine slc hM ?_ | refine slp hM ?_) | ((with_reducible refine at_store ?_); first | (refine slw hM ?_; clear hM; intro wx hM) | (refine sls hM ?_; clear hM; intro wx hM) | (refine slt hM ?_; clear hM; intro wx hM)) | ((with_reducible refine at_alloc ?_); refine slz hM ?_; clear hM; intro gx wx hM) | ((with_reducible refine at_box ?_); refine slb hM ?_; clear hM; intro gx wx hM))
  exact bodyPost_ret (results_mem_cell_tmp hM rfl (by rfl) (by repeat (first | exact List.Mem.head _ | apply List.Mem.tail)) row_a16 (by rfl)) rfl ⟨rfl, hM.below⟩
end Go.Proofs.YtbbdnlcjjcmllaaDoor
