/- The walk of SignerKeys. -/
import Derived.Test.YtdnnjgjaffkdfaaDoorSbj
import Derived.Test.YtdnnjgjaffkdfaaDoorXb
import Derived.Test.YtdnnjgjaffkdfaaDoorWc
namespace Go.Proofs.YtdnnjgjaffkdfaaDoor
open Go Go.RowKit Go.Bul Go.Thg Go.Lin
set_option maxRecDepth 20000 in
set_option maxHeartbeats 8000000 in
theorem skeys_any (s : Sd) (x : Nat) (z : Int) (w : World) (hx : x < 256) (hT : Tab w) (hA : Alp w) :
    Calls Tryd.prog 4 #[.agg (cellsOf .u8 s.val), .int .u8 (x : Nat), .int .i64 z] w fun e w' => e = .returned (.bool true) ∧ Below w.heap.size w w' := by
  have hM := Mem.start [] w
  have HS := Lib.hid (show (cellsOf .u8 s.val).size = 32 by rw [cellsOf_size, s.len])
  have HK := Lib.hid (fun w' (hb : Below w.heap.size w w') => known_any w' (hT.keep hb) (hA.keep hb))
  have HLo := Lib.hid (fun w => low_any x w hx)
  obtain ⟨h, hh⟩ : ∃ h, 1 + x % 3 = h := ⟨_, rfl⟩
  have h1 : 1 ≤ h := by omega
  have h3 : h ≤ 3 := by omega
  rw [hh] at HLo
  have HP := Lib.hid (fun w' (hb : Below w.heap.size w w') => spub_yes s h w' h1 (by omega) (hT.keep hb))
  have HOf := Lib.hid (fun w' (hb : Below w.heap.size w w') => of_yes h (rtN s h) w' h1 (by omega) (hT.keep hb))
  have HRT := Lib.hid (fun w => rrt_any s h w (by omega))
  have HAU := Lib.hid (fun w => rauthor_any h (rtN s h) w (by omega))
  have HPC := Lib.hid (fun w => pcheck_any z nd0 w)
  have HSC := Lib.hid (fun w => scheck_any sd0 z w)
  have q0 : (0 : Int) ≤ (h : Int) := Int.natCast_nonneg _
  generalize halfN (pubBs h (rtN s h)) = T at HOf HAU
  have HP0 := Lib.hid (pubC_0 (h : Nat) (rtN s h))
  have HPR := Lib.hid (pubC_r (h : Nat) (rtN s h))
  have qt := eq_16 T T
  rw [decide_eq_true rfl] at qt
  have qz := eq_16 (rtN s h) (rtN s h)
  rw [decide_eq_true rfl] at qz
  by_cases hz : 1 ≤ z ∧ z ≤ 8
  · have r1 : decide (1 ≤ z) = true := decide_eq_true hz.1
    have r2 : decide (z ≤ 8) = true := decide_eq_true hz.2
    rw [show hE z = 0 by unfold hE; rw [if_pos hz]] at HPC HSC
    generalize rtN s h = Z at HP HOf HRT HAU HP0 HPR qz
    clear hz hT hA hh h1 h3 hx
    go_enter Tryd.func4, Tryd.ntmps4
    go_upto_region 6 with (first | ((with_reducible refine at_box ?_); refine slb hM ?_ (hty := row_a32) (hn := HS.out); clear hM; intro g1 w1 hM) | ((with_reducible refine (HK.out _ hM.below).mono ?_); rintro e w1 ⟨rfl, hb⟩; replace hM := hM.step hb; clear hb) | ((with_reducible refine (HLo.out _).mono ?_); rintro e w1 ⟨rfl, rfl⟩) | ((with_reducible refine (HP.out _ hM.below).mono ?_); rintro e w1 ⟨rfl, hb⟩; replace hM := hM.step hb; clear hb) | ((with_reducible refine (HOf.out _ hM.below).mono ?_); rintro e w1 ⟨rfl, hb⟩; replace hM := hM.step hb; clear hb) | ((first | with_reducible refine at_load ?_ | ((with_reducible refine at_load_g ?_ ?_); (· rfl))); first | refine sll hM ?_ (hty := row_a32) | refine sll hM ?_ (hty := row_pub) | refine sll hM ?_ (hty := row_aut) | refine slp hM ?_ (hty := row_a16) (hX := HPR.out)) | ((first | with_reducible refine at_build ?_ | ((with_reducible refine at_build_g ?_ ?_); (· rfl))); first | refine lbpub ?_ | refine lbpub0 ?_ | refine lbpubh ?_ | refine lbsec ?_ | refine lbsech ?_ | refine wpList_build_zero rfl _ (by rfl) _ _ zero_aut arr_aut ?_) | ((with_reducible refine at_alloc ?_); first | (refine slz hM ?_ (hz := zero_pub); clear hM; intro g9 w1 hM) | (refine slz hM ?_ (hz := zero_aut); clear hM; intro g10 w1 hM)) | ((with_reducible refine at_store ?_); first | (refine slw hM ?_ (hs := pubC_size _ _) (h1 := pubC_one _ _) (hty := row_pub); clear hM; intro wx hM) | (refine slw hM ?_ (hs := ndC_size _) (hty := row_aut); clear hM; intro wx hM)))
    refine Go.Bul.wp_region_class (Mem _ w _ _) (by kernel_rfl) (by kernel_rfl) hM.drew ?_
    repeat ((with_reducible refine wpQuiet_step (fun K hK => ?_)); (first | ((first | ((with_reducible refine quiet_some ?_ ?_); (· rfl)) | ((with_reducible refine Go.Thg.quiet_wanted ?_ ?_); (· rfl))); apply Exists.intro; refine ⟨fun w' hM' => ?_, ?_⟩; (· first | (go_simp; rfl) | exact sqc hM' (hv := HP0.out) | exact sqp hM' (hty := row_a16) (hX := HPR.out) | exact sql hM' (hty := row_a32) | exact sql hM' (hty := row_aut) | (go_simp; with_reducible refine at_calls ?_; first | exact quiet_mem_call hM' (HRT.out _) | exact quiet_mem_call hM' (HAU.out _)) | exact qc hM' | exact ql hM' | exact qp hM')) | ((with_reducible refine Go.Thg.quiet_unwanted ?_ ?_); (· rfl))); go_simp; (with_reducible refine hK _ ?_); clear hK K)
    refine wpQuiet_nil ?_
    intro wx hM
    go_wp2_with (first | ((with_reducible refine (HPC.out _).mono ?_); rintro e w1 ⟨rfl, hb⟩; replace hM := hM.step hb; clear hb) | ((with_reducible refine (HSC.out _).mono ?_); rintro e w1 ⟨rfl, hb⟩; replace hM := hM.step hb; clear hb) | ((with_reducible refine (HPN.out _).mono ?_); rintro e w1 ⟨rfl, hb⟩; replace hM := hM.step hb; clear hb) | ((with_reducible refine (HON.out _).mono ?_); rintro e w1 ⟨rfl, hb⟩; replace hM := hM.step hb; clear hb) | ((first | with_reducible refine at_load ?_ | ((with_reducible refine at_load_g ?_ ?_); (· rfl))); first | refine sll hM ?_ (hty := row_a32) | refine sll hM ?_ (hty := row_pub) | refine sll hM ?_ (hty := row_aut) | refine slp hM ?_ (hty := row_a16) (hX := HPR.out)) | ((first | with_reducible refine at_build ?_ | ((with_reducible refine at_build_g ?_ ?_); (· rfl))); first | refine lbpub ?_ | refine lbpub0 ?_ | refine lbpubh ?_ | refine lbsec ?_ | refine lbsech ?_ | refine wpList_build_zero rfl _ (by rfl) _ _ zero_aut arr_aut ?_) | ((with_reducible refine at_alloc ?_); first | (refine slz hM ?_ (hz := zero_pub); clear hM; intro g9 w1 hM) | (refine slz hM ?_ (hz := zero_aut); clear hM; intro g10 w1 hM)) | ((with_reducible refine at_store ?_); first | (refine slw hM ?_ (hs := pubC_size _ _) (h1 := pubC_one _ _) (hty := row_pub); clear hM; intro wx hM) | (refine slw hM ?_ (hs := ndC_size _) (hty := row_aut); clear hM; intro wx hM)))
    go_ret
    exact ⟨rfl, hM.below⟩
  · have hE2 : hE z = 2 := by unfold hE; rw [if_neg hz]
    rw [hE2] at HPC HSC
    have HPN := Lib.hid (fun w => spub_no s z w (by rw [hE2]; decide))
    rw [hE2] at HPN
    have HON := Lib.hid (fun w => of_no z (rtN s h) w hE2)
    have qp := eq_pub 0 0 nd0 nd0
    rw [show ((0 : Int) == 0 && decide (nd0 = nd0)) = true by simp] at qp
    have qa := eq_aut nd0 nd0
    rw [decide_eq_true rfl] at qa
    generalize rtN s h = Z at HP HOf HRT HAU HP0 HPR HON qz
    by_cases hz1 : 1 ≤ z
    · have r1 : decide (1 ≤ z) = true := decide_eq_true hz1
      have r2 : decide (z ≤ 8) = false := decide_eq_false (fun h => hz ⟨hz1, h⟩)
      clear hz hz1 hT hA hh h1 h3 hx hE2
      go_enter Tryd.func4, Tryd.ntmps4
      go_upto_region 6 with (first | ((with_reducible refine at_box ?_); refine slb hM ?_ (hty := row_a32) (hn := HS.out); clear hM; intro g1 w1 hM) | ((with_reducible refine (HK.out _ hM.below).mono ?_); rintro e w1 ⟨rfl, hb⟩; replace hM := hM.step hb; clear hb) | ((with_reducible refine (HLo.out _).mono ?_); rintro e w1 ⟨rfl, rfl⟩) | ((with_reducible refine (HP.out _ hM.below).mono ?_); rintro e w1 ⟨rfl, hb⟩; replace hM := hM.step hb; clear hb) | ((with_reducible refine (HOf.out _ hM.below).mono ?_); rintro e w1 ⟨rfl, hb⟩; replace hM := hM.step hb; clear hb) | ((first | with_reducible refine at_load ?_ | ((with_reducible refine at_load_g ?_ ?_); (· rfl))); first | refine sll hM ?_ (hty := row_a32) | refine sll hM ?_ (hty := row_pub) | refine sll hM ?_ (hty := row_aut) | refine slp hM ?_ (hty := row_a16) (hX := HPR.out)) | ((first | with_reducible refine at_build ?_ | ((with_reducible refine at_build_g ?_ ?_); (· rfl))); first | refine lbpub ?_ | refine lbpub0 ?_ | refine lbpubh ?_ | refine lbsec ?_ | refine lbsech ?_ | refine wpList_build_zero rfl _ (by rfl) _ _ zero_aut arr_aut ?_) | ((with_reducible refine at_alloc ?_); first | (refine slz hM ?_ (hz := zero_pub); clear hM; intro g9 w1 hM) | (refine slz hM ?_ (hz := zero_aut); clear hM; intro g10 w1 hM)) | ((with_reducible refine at_store ?_); first | (refine slw hM ?_ (hs := pubC_size _ _) (h1 := pubC_one _ _) (hty := row_pub); clear hM; intro wx hM) | (refine slw hM ?_ (hs := ndC_size _) (hty := row_aut); clear hM; intro wx hM)))
      refine Go.Bul.wp_region_class (Mem _ w _ _) (by kernel_rfl) (by kernel_rfl) hM.drew ?_
      repeat ((with_reducible refine wpQuiet_step (fun K hK => ?_)); (first | ((first | ((with_reducible refine quiet_some ?_ ?_); (· rfl)) | ((with_reducible refine Go.Thg.quiet_wanted ?_ ?_); (· rfl))); apply Exists.intro; refine ⟨fun w' hM' => ?_, ?_⟩; (· first | (go_simp; rfl) | exact sqc hM' (hv := HP0.out) | exact sqp hM' (hty := row_a16) (hX := HPR.out) | exact sql hM' (hty := row_a32) | exact sql hM' (hty := row_aut) | (go_simp; with_reducible refine at_calls ?_; first | exact quiet_mem_call hM' (HRT.out _) | exact quiet_mem_call hM' (HAU.out _)) | exact qc hM' | exact ql hM' | exact qp hM')) | ((with_reducible refine Go.Thg.quiet_unwanted ?_ ?_); (· rfl))); go_simp; (with_reducible refine hK _ ?_); clear hK K)
      refine wpQuiet_nil ?_
      intro wx hM
      go_wp2_with (first | ((with_reducible refine (HPC.out _).mono ?_); rintro e w1 ⟨rfl, hb⟩; replace hM := hM.step hb; clear hb) | ((with_reducible refine (HSC.out _).mono ?_); rintro e w1 ⟨rfl, hb⟩; replace hM := hM.step hb; clear hb) | ((with_reducible refine (HPN.out _).mono ?_); rintro e w1 ⟨rfl, hb⟩; replace hM := hM.step hb; clear hb) | ((with_reducible refine (HON.out _).mono ?_); rintro e w1 ⟨rfl, hb⟩; replace hM := hM.step hb; clear hb) | ((first | with_reducible refine at_load ?_ | ((with_reducible refine at_load_g ?_ ?_); (· rfl))); first | refine sll hM ?_ (hty := row_a32) | refine sll hM ?_ (hty := row_pub) | refine sll hM ?_ (hty := row_aut) | refine slp hM ?_ (hty := row_a16) (hX := HPR.out)) | ((first | with_reducible refine at_build ?_ | ((with_reducible refine at_build_g ?_ ?_); (· rfl))); first | refine lbpub ?_ | refine lbpub0 ?_ | refine lbpubh ?_ | refine lbsec ?_ | refine lbsech ?_ | refine wpList_build_zero rfl _ (by rfl) _ _ zero_aut arr_aut ?_) | ((with_reducible refine at_alloc ?_); first | (refine slz hM ?_ (hz := zero_pub); clear hM; intro g9 w1 hM) | (refine slz hM ?_ (hz := zero_aut); clear hM; intro g10 w1 hM)) | ((with_reducible refine at_store ?_); first | (refine slw hM ?_ (hs := pubC_size _ _) (h1 := pubC_one _ _) (hty := row_pub); clear hM; intro wx hM) | (refine slw hM ?_ (hs := ndC_size _) (hty := row_aut); clear hM; intro wx hM)))
      go_ret
      exact ⟨rfl, hM.below⟩
    · have r1 : decide (1 ≤ z) = false := decide_eq_false hz1
      clear hz hz1 hT hA hh h1 h3 hx hE2
      go_enter Tryd.func4, Tryd.ntmps4
      go_upto_region 6 with (first | ((with_reducible refine at_box ?_); refine slb hM ?_ (hty := row_a32) (hn := HS.out); clear hM; intro g1 w1 hM) | ((with_reducible refine (HK.out _ hM.below).mono ?_); rintro e w1 ⟨rfl, hb⟩; replace hM := hM.step hb; clear hb) | ((with_reducible refine (HLo.out _).mono ?_); rintro e w1 ⟨rfl, rfl⟩) | ((with_reducible refine (HP.out _ hM.below).mono ?_); rintro e w1 ⟨rfl, hb⟩; replace hM := hM.step hb; clear hb) | ((with_reducible refine (HOf.out _ hM.below).mono ?_); rintro e w1 ⟨rfl, hb⟩; replace hM := hM.step hb; clear hb) | ((first | with_reducible refine at_load ?_ | ((with_reducible refine at_load_g ?_ ?_); (· rfl))); first | refine sll hM ?_ (hty := row_a32) | refine sll hM ?_ (hty := row_pub) | refine sll hM ?_ (hty := row_aut) | refine slp hM ?_ (hty := row_a16) (hX := HPR.out)) | ((first | with_reducible refine at_build ?_ | ((with_reducible refine at_build_g ?_ ?_); (· rfl))); first | refine lbpub ?_ | refine lbpub0 ?_ | refine lbpubh ?_ | refine lbsec ?_ | refine lbsech ?_ | refine wpList_build_zero rfl _ (by rfl) _ _ zero_aut arr_aut ?_) | ((with_reducible refine at_alloc ?_); first | (refine slz hM ?_ (hz := zero_pub); clear hM; intro g9 w1 hM) | (refine slz hM ?_ (hz := zero_aut); clear hM; intro g10 w1 hM)) | ((with_reducible refine at_store ?_); first | (refine slw hM ?_ (hs := pubC_size _ _) (h1 := pubC_one _ _) (hty := row_pub); clear hM; intro wx hM) | (refine slw hM ?_ (hs := ndC_size _) (hty := row_aut); clear hM; intro wx hM)))
      refine Go.Bul.wp_region_class (Mem _ w _ _) (by kernel_rfl) (by kernel_rfl) hM.drew ?_
      repeat ((with_reducible refine wpQuiet_step (fun K hK => ?_)); (first | ((first | ((with_reducible refine quiet_some ?_ ?_); (· rfl)) | ((with_reducible refine Go.Thg.quiet_wanted ?_ ?_); (· rfl))); apply Exists.intro; refine ⟨fun w' hM' => ?_, ?_⟩; (· first | (go_simp; rfl) | exact sqc hM' (hv := HP0.out) | exact sqp hM' (hty := row_a16) (hX := HPR.out) | exact sql hM' (hty := row_a32) | exact sql hM' (hty := row_aut) | (go_simp; with_reducible refine at_calls ?_; first | exact quiet_mem_call hM' (HRT.out _) | exact quiet_mem_call hM' (HAU.out _)) | exact qc hM' | exact ql hM' | exact qp hM')) | ((with_reducible refine Go.Thg.quiet_unwanted ?_ ?_); (· rfl))); go_simp; (with_reducible refine hK _ ?_); clear hK K)
      refine wpQuiet_nil ?_
      intro wx hM
      go_wp2_with (first | ((with_reducible refine (HPC.out _).mono ?_); rintro e w1 ⟨rfl, hb⟩; replace hM := hM.step hb; clear hb) | ((with_reducible refine (HSC.out _).mono ?_); rintro e w1 ⟨rfl, hb⟩; replace hM := hM.step hb; clear hb) | ((with_reducible refine (HPN.out _).mono ?_); rintro e w1 ⟨rfl, hb⟩; replace hM := hM.step hb; clear hb) | ((with_reducible refine (HON.out _).mono ?_); rintro e w1 ⟨rfl, hb⟩; replace hM := hM.step hb; clear hb) | ((first | with_reducible refine at_load ?_ | ((with_reducible refine at_load_g ?_ ?_); (· rfl))); first | refine sll hM ?_ (hty := row_a32) | refine sll hM ?_ (hty := row_pub) | refine sll hM ?_ (hty := row_aut) | refine slp hM ?_ (hty := row_a16) (hX := HPR.out)) | ((first | with_reducible refine at_build ?_ | ((with_reducible refine at_build_g ?_ ?_); (· rfl))); first | refine lbpub ?_ | refine lbpub0 ?_ | refine lbpubh ?_ | refine lbsec ?_ | refine lbsech ?_ | refine wpList_build_zero rfl _ (by rfl) _ _ zero_aut arr_aut ?_) | ((with_reducible refine at_alloc ?_); first | (refine slz hM ?_ (hz := zero_pub); clear hM; intro g9 w1 hM) | (refine slz hM ?_ (hz := zero_aut); clear hM; intro g10 w1 hM)) | ((with_reducible refine at_store ?_); first | (refine slw hM ?_ (hs := pubC_size _ _) (h1 := pubC_one _ _) (hty := row_pub); clear hM; intro wx hM) | (refine slw hM ?_ (hs := ndC_size _) (hty := row_aut); clear hM; intro wx hM)))
      go_ret
      exact ⟨rfl, hM.below⟩
end Go.Proofs.YtdnnjgjaffkdfaaDoor
