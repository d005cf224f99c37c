/- Contracts of a Signer: Last, Next, Left, Skip; New out of range. Operations of a signer: how they lie in memory; what they come to. -/
import Derived.Test.YtdnnjgjaffkdfaaDoorSgl
namespace Go.Proofs.YtdnnjgjaffkdfaaDoor
open Go Go.RowKit Go.Bul Go.Thg Go.Lin
set_option maxRecDepth 20000 in
set_option maxHeartbeats 4000000 in
theorem glast_yes {w0 w : World} {L : List Ent} {R : List Thing} {g : Nat} (s : Sd) (h : Nat) (A : Option Addr) (n c : Nat) (lv : List Nd) (k kl : Nat) (d : Nd) (hM : Mem [] w0 (⟨g, 116, 35, sgrC s (h : Nat) A n c (k : Nat)⟩ :: L) R w) (hR : ndT (.slice A n c) lv ∈ R)
    (h1 : 1 ≤ h) (hh : h ≤ 8) (hn : lv.length = 2 ^ h) (hkl : kl + 1 = 2 ^ h) (hk : k ≤ kl) (hT : Tab w0) :
    Calls Tryd.prog 35 #[.pointer (some ⟨g, 0, none⟩), .agg (ndC d)] w fun e w' => ∃ B c', e = .returned (.tuple #[.agg (sigC (kl : Nat) (sgCh s kl d) B h c'), .int .i64 0]) ∧ Mem [] w0 (⟨g, 116, 35, sgrC s (h : Nat) A n c ((kl : Int) + 1)⟩ :: L) (p16T (.slice B h c') (sibsF lv kl h) :: R) w' := by
  have hp2 : (2 : Int) ^ h = ((2 ^ h : Nat) : Int) := by simp
  have hp3 : (2 : Int) ^ h - 1 = (kl : Int) := by omega
  have HR := Lib.hid hR
  have HLA := Lib.hid (fun w' hc => last_any g h w' hc hh)
  rw [hp3] at HLA
  have HU := Lib.hid (fun L R w' (hm : Mem [] w0 (⟨g, 116, 35, sgrC s (h : Nat) A n c (k : Nat)⟩ :: L) R w') (hr : ndT (.slice A n c) lv ∈ R) => use_any s h A n c (k : Nat) lv kl d hm hr h1 hh hn (by omega) hT)
  have H32 := Lib.hid (sgrC_h s (h : Nat) A n c (k : Nat))
  have H34 := Lib.hid (sgrC_n s (h : Nat) A n c (k : Nat))
  have r1 : decide ((kl : Int) < (k : Int)) = false := decide_eq_false (by omega)
  have r2 : decide (kl < k) = false := decide_eq_false (by omega)
  have r3 : k ≤ kl := hk
  generalize sgCh s kl d = ch at HU ⊢
  generalize sibsF lv kl h = P at HU ⊢
  generalize sgrC s (h : Nat) A n c ((kl : Int) + 1) = X2 at HU ⊢
  generalize sgrC s (h : Nat) A n c (k : Nat) = X at hM HU H32 H34
  clear hR h1 hh hn hk hT hp2 hp3 hkl
  go_enter Tryd.func35, Tryd.ntmps35
  go_upto_region 3 with (first | ((with_reducible refine at_box ?_); refine slb hM ?_ (hty := row_a16) (hn := ndC_size _); clear hM; intro g3 w1 hM) | ((with_reducible refine at_alloc ?_); refine slz hM ?_ (hz := zero_sgn); clear hM; intro g4 w1 hM))
  obtain ⟨g4, hg4⟩ := hM.name1
  obtain ⟨g3, hg3⟩ := (hM.subL (List.sublist_cons_self _ _)).name1
  subst hg4 hg3
  refine Go.Bul.wp_region_class (Mem _ w0 _ _) (by kernel_rfl) (by kernel_rfl) hM.drew ?_
  repeat ((with_reducible refine wpQuiet_step (fun K hK => ?_)); (first | ((first | ((with_reducible refine quiet_some ?_ ?_); (· rfl)) | ((with_reducible refine quiet_wanted ?_ ?_); (· rfl))); apply Exists.intro; refine ⟨fun w' hM' => ?_, ?_⟩; (· first | (go_simp; rfl) | exact sqc hM' (hv := H34.out) | (go_simp; with_reducible refine at_calls ?_; exact quiet_mem_call_same hM' (HLA.out _ (((hM'.blk (List.Mem.tail _ (List.Mem.tail _ (List.Mem.head _)))).cell 32).trans H32.out))) | exact qc hM' | exact ql hM' | exact qp hM')) | ((with_reducible refine quiet_unwanted ?_ ?_); (· rfl))); go_simp; (with_reducible refine hK _ ?_); clear hK K)
  refine wpQuiet_nil ?_
  intro wx hM
  go_upto_region 5 with fail
  refine wp_region_allTM hM 4 (HeldM [⟨g3, 22, 16, ndC d⟩, ⟨g, 116, 35, X⟩]) (by kernel_rfl) ?_
  clear hM
  intro wd hM
  have hS := HeldM.of (hM.subL (L' := [⟨g3, 22, 16, ndC d⟩, ⟨g, 116, 35, X⟩]) (List.Sublist.cons _ (List.Sublist.cons_cons _ (List.Sublist.cons_cons _ (List.nil_sublist _)))))
  refine wpAllT_takes [0, 1, 3] (by kernel_rfl) (fun _ _ _ _ _ h => h) hS (by kernel_rfl) ?_
  simp only [pickOps, List.filterMap_cons, List.filterMap_nil, List.getElem?_cons_zero, List.getElem?_cons_succ]
  repeat ((with_reducible apply wpHeld_step); (· rfl); (· (intro wq hSw; first | (go_simp; rfl) | ((obtain ⟨_, _, _, hM'⟩ := hSw; first | exact yields_load (C := fun _ => True) (sql hM' (hty := row_a16)) rfl)))); intro K hK; go_simp; (with_reducible refine hK _ ?_); clear hK K)
  refine wpHeld_nil ?_
  refine wpAllT_one 2 rfl (by kernel_rfl) ?_
  go_wp2_with fail
  refine (HLA.out _ (((hM.blk (List.Mem.tail _ (List.Mem.tail _ (List.Mem.head _)))).cell 32).trans H32.out)).mono ?_
  rintro e w1 ⟨rfl, rfl⟩
  go_wp2_with fail
  refine then_normal ⟨.inr hS, ?_⟩
  refine wpAllT_one 4 rfl (by kernel_rfl) ?_
  go_wp2_with fail
  refine (HU.out _ _ _ (hM.permL (List.perm_middle (l₁ := ([_, _] : List Ent))).symm) HR.out).mono ?_
  rintro e w1 ⟨B, c', rfl, hM2⟩
  replace hM := hM2.permL (List.perm_middle (l₁ := ([_, _] : List Ent)))
  simp only [List.cons_append, List.nil_append] at hM
  clear hM2 hS
  go_wp2_with fail
  refine then_normal ⟨.inl (by kernel_rfl), wpAllT_drop (by kernel_rfl) ?_⟩
  refine wpAll_takes [5, 6] (by kernel_rfl) (fun _ _ _ _ _ h => h) (by kernel_rfl) ?_
  simp only [pickOps, List.filterMap_cons, List.filterMap_nil, List.getElem?_cons_zero, List.getElem?_cons_succ]
  repeat ((with_reducible apply wpPure_step); (· rfl); (· (intro w; go_simp; rfl)); intro K hK; go_simp; (with_reducible refine hK _ ?_); clear hK K)
  refine wpPure_nil ?_
  refine wpAll_one 7 rfl (by kernel_rfl) ?_
  refine slw hM ?_ (hs := sigC_size _ _ _ _ _) (h1 := sigC_one _ _ _ _ _) (hty := row_sgn)
  clear hM
  intro wy hM
  refine wpList_then ?_
  go_simp
  refine wpAll_takes [8] (by kernel_rfl) (fun _ _ _ _ _ h => h) (by kernel_rfl) ?_
  simp only [pickOps, List.filterMap_cons, List.filterMap_nil, List.getElem?_cons_zero, List.getElem?_cons_succ]
  repeat ((with_reducible apply wpPure_step); (· rfl); (· (intro w; go_simp; rfl)); intro K hK; go_simp; (with_reducible refine hK _ ?_); clear hK K)
  refine wpPure_nil ?_
  refine wpAll_done (by kernel_rfl) ?_
  go_wp2_with fail
  exact bodyPost_ret (results_mem_cell_tmp hM rfl (by rfl) (by repeat (first | exact List.Mem.head _ | apply List.Mem.tail)) row_sgn (by rfl)) rfl ⟨B, c', rfl, hM.subL (List.Sublist.cons _ (List.Sublist.cons _ (List.Sublist.refl _)))⟩
set_option maxRecDepth 20000 in
set_option maxHeartbeats 2000000 in
theorem glast_used {w0 w : World} {L : List Ent} {R : List Thing} {g : Nat} (s : Sd) (h : Nat) (A : Option Addr) (n c : Nat) (k kl : Nat) (d : Nd) (hM : Mem [] w0 (⟨g, 116, 35, sgrC s (h : Nat) A n c (k : Nat)⟩ :: L) R w)
    (hh : h ≤ 8) (hkl : kl + 1 = 2 ^ h) (hk : kl < k) :
    Calls Tryd.prog 35 #[.pointer (some ⟨g, 0, none⟩), .agg (ndC d)] w fun e w' => e = .returned (.tuple #[.agg (sigC 0 ch0 none 0 0), .int .i64 19]) ∧ Mem [] w0 (⟨g, 116, 35, sgrC s (h : Nat) A n c (k : Nat)⟩ :: L) R w' := by
  have hp2 : (2 : Int) ^ h = ((2 ^ h : Nat) : Int) := by simp
  have hp3 : (2 : Int) ^ h - 1 = (kl : Int) := by omega
  have HLA := Lib.hid (fun w' hc => last_any g h w' hc hh)
  rw [hp3] at HLA
  have H32 := Lib.hid (sgrC_h s (h : Nat) A n c (k : Nat))
  have H34 := Lib.hid (sgrC_n s (h : Nat) A n c (k : Nat))
  have r1 : decide ((kl : Int) < (k : Int)) = true := decide_eq_true (by omega)
  have r2 : decide (kl < k) = true := decide_eq_true (by omega)
  have r3 : kl < k := hk
  generalize sgrC s (h : Nat) A n c (k : Nat) = X at hM H32 H34 ⊢
  clear hh hk hp2 hp3 hkl
  go_enter Tryd.func35, Tryd.ntmps35
  go_upto_region 3 with (first | ((with_reducible refine at_box ?_); refine slb hM ?_ (hty := row_a16) (hn := ndC_size _); clear hM; intro g3 w1 hM) | ((with_reducible refine at_alloc ?_); refine slz hM ?_ (hz := zero_sgn); clear hM; intro g4 w1 hM))
  obtain ⟨g4, hg4⟩ := hM.name1
  obtain ⟨g3, hg3⟩ := (hM.subL (List.sublist_cons_self _ _)).name1
  subst hg4 hg3
  refine Go.Bul.wp_region_class (Mem _ w0 _ _) (by kernel_rfl) (by kernel_rfl) hM.drew ?_
  repeat ((with_reducible refine wpQuiet_step (fun K hK => ?_)); (first | ((first | ((with_reducible refine quiet_some ?_ ?_); (· rfl)) | ((with_reducible refine quiet_wanted ?_ ?_); (· rfl))); apply Exists.intro; refine ⟨fun w' hM' => ?_, ?_⟩; (· first | (go_simp; rfl) | exact sqc hM' (hv := H34.out) | (go_simp; with_reducible refine at_calls ?_; exact quiet_mem_call_same hM' (HLA.out _ (((hM'.blk (List.Mem.tail _ (List.Mem.tail _ (List.Mem.head _)))).cell 32).trans H32.out))) | exact qc hM' | exact ql hM' | exact qp hM')) | ((with_reducible refine quiet_unwanted ?_ ?_); (· rfl))); go_simp; (with_reducible refine hK _ ?_); clear hK K)
  refine wpQuiet_nil ?_
  intro wx hM
  go_wp2_with (first | ((with_reducible refine at_build ?_); refine lbsgn0 ?_) | ((with_reducible refine at_store ?_); refine slw hM ?_ (hs := sigC_size _ _ _ _ _) (h1 := sigC_one _ _ _ _ _) (hty := row_sgn); clear hM; intro wx hM))
  exact bodyPost_ret (results_mem_cell_tmp hM rfl (by rfl) (by repeat (first | exact List.Mem.head _ | apply List.Mem.tail)) row_sgn (by rfl)) rfl ⟨rfl, hM.subL (List.Sublist.cons _ (List.Sublist.cons _ (List.Sublist.refl _)))⟩
set_option maxRecDepth 20000 in
theorem gnext_any (g : Nat) (k : Int) (w : World) (hc : w.cell? ⟨g, 34, none⟩ = some (.int .i64 k)) :
    Calls Tryd.prog 32 #[.pointer (some ⟨g, 0, none⟩)] w fun e w' => e = .returned (.int .i64 k) ∧ w = w' := by
  have HC := Lib.hid hc
  clear hc
  go_enter Tryd.func32, Tryd.ntmps32
  go_wp2_with ((with_reducible refine at_load ?_); refine lo HC.out ?_ (hty := one_int))
  go_ret
  exact ⟨rfl, rfl⟩
set_option maxRecDepth 20000 in
set_option maxHeartbeats 1000000 in
theorem gleft_any {w0 w : World} {L : List Ent} {R : List Thing} {g : Nat} (s : Sd) (h : Nat) (A : Option Addr) (n c : Nat) (k kl : Nat) (hM : Mem [] w0 (⟨g, 116, 35, sgrC s (h : Nat) A n c (k : Nat)⟩ :: L) R w)
    (hh : h ≤ 8) (hkl : kl + 1 = 2 ^ h) (hk : k ≤ kl + 1) :
    Calls Tryd.prog 33 #[.pointer (some ⟨g, 0, none⟩)] w fun e w' => e = .returned (.int .i64 (max 0 ((kl : Int) - (k : Int)))) ∧ Mem [] w0 (⟨g, 116, 35, sgrC s (h : Nat) A n c (k : Nat)⟩ :: L) R w' := by
  have hp2 : (2 : Int) ^ h = ((2 ^ h : Nat) : Int) := by simp
  have hp3 : (2 : Int) ^ h - 1 = (kl : Int) := by omega
  have hp4 : 2 ^ h ≤ 2 ^ 8 := Nat.pow_le_pow_right (by decide) hh
  have HLA := Lib.hid (fun w' hc => last_any g h w' hc hh)
  rw [hp3] at HLA
  have H32 := Lib.hid (sgrC_h s (h : Nat) A n c (k : Nat))
  have H34 := Lib.hid (sgrC_n s (h : Nat) A n c (k : Nat))
  have ww : IntKind.i64.wrap ((kl : Int) - (k : Int)) = (kl : Int) - (k : Int) := IntWalk.i64_in _ ⟨by omega, by omega⟩
  generalize sgrC s (h : Nat) A n c (k : Nat) = X at hM H32 H34 ⊢
  clear hh hk hp2 hp3 hp4 hkl
  go_enter Tryd.func33, Tryd.ntmps33
  go_upto_region 3 with fail
  refine Go.Bul.wp_region_class (Mem _ w0 _ _) (by kernel_rfl) (by kernel_rfl) hM.drew ?_
  repeat ((with_reducible refine wpQuiet_step (fun K hK => ?_)); (first | ((first | ((with_reducible refine quiet_some ?_ ?_); (· rfl)) | ((with_reducible refine quiet_wanted ?_ ?_); (· rfl))); apply Exists.intro; refine ⟨fun w' hM' => ?_, ?_⟩; (· first | (go_simp; rfl) | exact sqc hM' (hv := H34.out) | (go_simp; with_reducible refine at_calls ?_; exact quiet_mem_call_same hM' (HLA.out _ (((hM'.blk (List.Mem.head _)).cell 32).trans H32.out))) | exact qc hM' | exact ql hM' | exact qp hM')) | ((with_reducible refine quiet_unwanted ?_ ?_); (· rfl))); go_simp; (with_reducible refine hK _ ?_); clear hK K)
  refine wpQuiet_nil ?_
  intro wx hM
  go_wp2_with fail
  go_ret
  exact ⟨rfl, hM⟩
set_option maxRecDepth 20000 in
set_option maxHeartbeats 1000000 in
theorem gskip_any {w0 w : World} {L : List Ent} {R : List Thing} {g : Nat} (s : Sd) (h : Nat) (A : Option Addr) (n c : Nat) (k kl : Nat) (z : Int) (hM : Mem [] w0 (⟨g, 116, 35, sgrC s (h : Nat) A n c (k : Nat)⟩ :: L) R w)
    (hh : h ≤ 8) (hkl : kl + 1 = 2 ^ h) :
    Calls Tryd.prog 36 #[.pointer (some ⟨g, 0, none⟩), .int .i64 z] w fun e w' => ((kl : Int) + 1 < z ∧ e = .returned (.int .i64 2) ∨ (z ≤ (kl : Int) + 1 ∧ z < (k : Int)) ∧ e = .returned (.int .i64 30)) ∧ Mem [] w0 (⟨g, 116, 35, sgrC s (h : Nat) A n c (k : Nat)⟩ :: L) R w' ∨ (z ≤ (kl : Int) + 1 ∧ (k : Int) ≤ z ∧ e = .returned (.int .i64 0)) ∧ Mem [] w0 (⟨g, 116, 35, sgrC s (h : Nat) A n c z⟩ :: L) R w' := by
  have hp2 : (2 : Int) ^ h = ((2 ^ h : Nat) : Int) := by simp
  have hp3 : (2 : Int) ^ h - 1 = (kl : Int) := by omega
  have hp4 : 2 ^ h ≤ 2 ^ 8 := Nat.pow_le_pow_right (by decide) hh
  have HLA := Lib.hid (fun w' hc => last_any g h w' hc hh)
  rw [hp3] at HLA
  have H32 := Lib.hid (sgrC_h s (h : Nat) A n c (k : Nat))
  have H34 := Lib.hid (sgrC_n s (h : Nat) A n c (k : Nat))
  have HSET := Lib.hid (sgrC_setn s (h : Nat) A n c (k : Nat) z)
  have k0 : (0 : Int) ≤ (kl : Int) := Int.natCast_nonneg _
  have k9 : (kl : Int) < 256 := by omega
  generalize sgrC s (h : Nat) A n c z = X2 at HSET ⊢
  generalize sgrC s (h : Nat) A n c (k : Nat) = X at hM H32 H34 HSET ⊢
  clear hh hp2 hp3 hp4 hkl
  by_cases h1 : (kl : Int) + 1 < z
  · have r1 : decide ((kl : Int) + 1 < z) = true := decide_eq_true h1
    replace h1 := Lib.hid h1
    go_enter Tryd.func36, Tryd.ntmps36
    go_wp2_with (first | ((with_reducible refine at_load ?_); refine slc hM ?_ (hv := H34.out)) | ((with_reducible refine (HLA.out _ (((hM.blk (List.Mem.head _)).cell 32).trans H32.out)).mono ?_); rintro e w1 ⟨rfl, rfl⟩))
    go_ret
    exact .inl ⟨.inl ⟨h1.out, rfl⟩, hM⟩
  · have r1 : decide ((kl : Int) + 1 < z) = false := decide_eq_false h1
    have h1' := Lib.hid (show z ≤ (kl : Int) + 1 by omega)
    by_cases h2 : z < (k : Int)
    · have r2 : decide (z < (k : Int)) = true := decide_eq_true h2
      replace h2 := Lib.hid h2
      clear h1
      go_enter Tryd.func36, Tryd.ntmps36
      go_wp2_with (first | ((with_reducible refine at_load ?_); refine slc hM ?_ (hv := H34.out)) | ((with_reducible refine (HLA.out _ (((hM.blk (List.Mem.head _)).cell 32).trans H32.out)).mono ?_); rintro e w1 ⟨rfl, rfl⟩))
      go_ret
      exact .inl ⟨.inr ⟨⟨h1'.out, h2.out⟩, rfl⟩, hM⟩
    · have r2 : decide (z < (k : Int)) = false := decide_eq_false h2
      have h2' := Lib.hid (show (k : Int) ≤ z by omega)
      clear h1 h2
      go_enter Tryd.func36, Tryd.ntmps36
      go_wp2_with (first | ((with_reducible refine at_load ?_); refine slc hM ?_ (hv := H34.out)) | ((with_reducible refine at_store ?_); refine sls hM ?_ (hX := HSET.out); clear hM; intro wx hM) | ((with_reducible refine (HLA.out _ (((hM.blk (List.Mem.head _)).cell 32).trans H32.out)).mono ?_); rintro e w1 ⟨rfl, rfl⟩))
      go_ret
      exact .inr ⟨⟨h1'.out, h2'.out, rfl⟩, hM⟩
set_option maxRecDepth 20000 in
set_option maxHeartbeats 1000000 in
theorem new_no (s : Sd) (h : Nat) (z : Int) (w : World) (h1 : 1 ≤ h) (hh : h ≤ 8) (hz : z < 0 ∨ (2 : Int) ^ h < z) :
    Calls Tryd.prog 30 #[.agg (secC s (h : Nat)), .int .i64 z] w fun e w' => e = .returned (.tuple #[.pointer none, .int .i64 2]) ∧ Below w.heap.size w w' := by
  have hM := Mem.start [] w
  have HS := Lib.hid (secC_size s (h : Nat))
  have HH := Lib.hid (secC_h s (h : Nat))
  have HC := Lib.hid (fun w => scheck_any s (h : Nat) w)
  rw [show hE (h : Nat) = 0 by unfold hE; rw [if_pos (by omega)]] at HC
  have hp : 2 ^ h ≤ 2 ^ 8 := Nat.pow_le_pow_right (by decide) hh
  have hp2 : (2 : Int) ^ h = ((2 ^ h : Nat) : Int) := by simp
  have c4 : wrap64 ((2 : Int) ^ h) = (2 : Int) ^ h := by rw [hp2]; have := Int.natCast_nonneg (2 ^ h); unfold wrap64; omega
  have q0 : (0 : Int) ≤ (h : Int) := Int.natCast_nonneg _
  have q1 : (h : Int) ≤ 8 := by omega
  generalize secC s (h : Nat) = X at HS HH HC ⊢
  by_cases hz1 : z < 0
  · have r1 : decide (z < 0) = true := decide_eq_true hz1
    clear hz hz1 h1 hh hp hp2
    go_enter Tryd.func30, Tryd.ntmps30
    go_wp2_with (first | ((with_reducible refine at_box ?_); refine slb hM ?_ (hty := row_sec) (hn := HS.out); clear hM; intro g2 w1 hM) | ((with_reducible refine (HC.out _).mono ?_); rintro e w1 ⟨rfl, hb⟩; replace hM := hM.step hb; clear hb) | ((first | with_reducible refine at_load ?_ | ((with_reducible refine at_load_g ?_ ?_); (· rfl))); first | refine slc hM ?_ (hv := HH.out) | refine sll hM ?_ (hty := row_sec)))
    go_ret2
    exact ⟨rfl, hM.below⟩
  · have r1 : decide (z < 0) = false := decide_eq_false hz1
    have r2 : decide ((2 : Int) ^ h < z) = true := decide_eq_true (hz.resolve_left hz1)
    clear hz hz1 h1 hh hp hp2
    go_enter Tryd.func30, Tryd.ntmps30
    go_wp2_with (first | ((with_reducible refine at_box ?_); refine slb hM ?_ (hty := row_sec) (hn := HS.out); clear hM; intro g2 w1 hM) | ((with_reducible refine (HC.out _).mono ?_); rintro e w1 ⟨rfl, hb⟩; replace hM := hM.step hb; clear hb) | ((first | with_reducible refine at_load ?_ | ((with_reducible refine at_load_g ?_ ?_); (· rfl))); first | refine slc hM ?_ (hv := HH.out) | refine sll hM ?_ (hty := row_sec)))
    go_ret2
    exact ⟨rfl, hM.below⟩
end Go.Proofs.YtdnnjgjaffkdfaaDoor
namespace Go.Lin
open Go Go.Bul Go.RowKit
/-- An operation. -/
structure OpG where
  kind : Nat
  n : Int
  d : Nd
  k9 : kind < 256
def opG (o : OpG) : List Value := .int .u8 (o.kind : Nat) :: .int .i64 o.n :: vals .u8 o.d.val
theorem opG_d (o : OpG) {j : Nat} {u : Value} (h : (ndC o.d)[j]? = some u) : (opG o)[2 + j]? = some u := by
  rw [Nat.add_comm]
  simpa [opG, cellsOf] using h
/-- Operations that a slice reads as. -/
structure OpsG (w : World) (A : Option Addr) (n : Nat) (os : List OpG) : Prop where
  len : n = os.length
  at_ : 0 < n → ∃ g off, A = some ⟨g, off, none⟩ ∧ g < w.heap.size ∧ ∀ i (h : i < os.length) j u, (opG os[i])[j]? = some u → w.cell? ⟨g, off + i * 18 + j, none⟩ = some u
theorem OpsG.keep {w w' : World} {A : Option Addr} {n : Nat} {os : List OpG} (h : OpsG w A n os) (hb : Below w.heap.size w w') : OpsG w' A n os :=
  ⟨h.len, fun h0 => by
    obtain ⟨g, off, h1, h2, h3⟩ := h.at_ h0
    exact ⟨g, off, h1, Nat.lt_of_lt_of_le h2 hb.size, fun i hi j u hu => (hb.cell (p := ⟨g, off + i * 18 + j, none⟩) h2).trans (h3 i hi j u hu)⟩⟩
theorem OpsG.cell {w : World} {g off n : Nat} {os : List OpG} (h : OpsG w (some ⟨g, off, none⟩) n os) (i : Nat) (hi : i < os.length) : ∀ j u, (opG os[i])[j]? = some u → w.cell? ⟨g, off + i * 18 + j, none⟩ = some u := by
  have hl := h.len
  obtain ⟨g', off', he, _, h2⟩ := h.at_ (by omega)
  injection he with he
  injection he with e1 e2
  subst e1 e2
  exact h2 i hi
end Go.Lin
