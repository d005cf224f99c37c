/- The reference: Check, Value. -/
import Derived.Test.YtdnnjgjaffkdfaaDoorSbl
namespace Go.Proofs.YtdnnjgjaffkdfaaDoor
open Go Go.RowKit Go.Bul Go.Thg Go.Lin
set_option maxRecDepth 20000 in
set_option maxHeartbeats 2000000 in
theorem rchk_any (leaf : Int) (ch : Ch) (A : Option Addr) (n c : Nat) (w : World) (hn : n ≤ 1000000) : Calls Tryd.prog 14 #[.agg (sigC leaf ch A n c)] w fun e w' => e = .returned (.int .i64 (sgE leaf n)) ∧ Below w.heap.size w w' := by
  have hM := Mem.start [] w
  have H0 := Lib.hid (sigC_0 leaf ch A n c)
  have HP := Lib.hid (sigC_p leaf ch A n c)
  have HS := Lib.hid (sigC_size leaf ch A n c)
  generalize sigC leaf ch A n c = X at H0 HP HS ⊢
  have n0 : (0 : Int) ≤ (n : Int) := Int.natCast_nonneg _
  unfold sgE hE
  by_cases h1 : 1 ≤ n
  · have r1 : decide ((n : Int) < 1) = false := decide_eq_false (by omega)
    by_cases h8 : n ≤ 8
    · have r2 : decide (8 < (n : Int)) = false := decide_eq_false (by omega)
      have hp : 2 ^ n ≤ 2 ^ 8 := Nat.pow_le_pow_right (by decide) h8
      have hp2 : (2 : Int) ^ n = ((2 ^ n : Nat) : Int) := by simp
      have hp3 : (0 : Int) ≤ (2 : Int) ^ n := by rw [hp2]; exact Int.natCast_nonneg _
      have hp4 : (2 : Int) ^ n ≤ 256 := by rw [hp2]; omega
      have c5 : IntKind.i64.wrap ((2 : Int) ^ n) = (2 : Int) ^ n := IntWalk.i64_in _ ⟨by omega, by omega⟩
      have n1 : (n : Int) ≤ 8 := by omega
      by_cases hl : 0 ≤ leaf
      · have r3 : decide (leaf < 0) = false := decide_eq_false (by omega)
        by_cases hu : leaf < 2 ^ n
        · rw [if_pos ⟨if_pos ⟨by omega, by omega⟩, hl, hu⟩]
          have r4 : decide ((2 : Int) ^ n ≤ leaf) = false := decide_eq_false (by omega)
          clear h1 h8 hp hp2 hp3 hp4 hl hu hn
          go_enter Tryd.func14, Tryd.ntmps14
          go_upto_region 2 with (first | ((with_reducible refine at_box ?_); refine slb hM ?_ (hty := row_rsg) (hn := HS.out); clear hM; intro g1 w1 hM) | ((with_reducible refine at_load ?_); refine slc hM ?_ (hv := HP.out)))
          refine Go.Bul.wp_region_class (Mem _ w _ _) (by kernel_rfl) (by kernel_rfl) hM.drew ?_
          repeat ((with_reducible refine wpQuiet_step (fun K hK => ?_)); (first | ((first | ((with_reducible refine quiet_some ?_ ?_); (· rfl)) | ((with_reducible refine Go.Thg.quiet_wanted ?_ ?_); (· rfl))); apply Exists.intro; refine ⟨fun w' hM' => ?_, ?_⟩; (· first | (go_simp; rfl) | exact sqc hM' (hv := H0.out) | exact qc hM' | exact ql hM' | exact qp hM')) | ((with_reducible refine Go.Thg.quiet_unwanted ?_ ?_); (· rfl))); go_simp; (with_reducible refine hK _ ?_); clear hK K)
          refine wpQuiet_nil ?_
          intro wx hM
          go_wp2_with fail
          go_ret
          exact ⟨rfl, hM.below⟩
        · rw [if_neg (fun h => hu h.2.2)]
          have r4 : decide ((2 : Int) ^ n ≤ leaf) = true := decide_eq_true (by omega)
          clear h1 h8 hp hp2 hp3 hp4 hl hu hn
          go_enter Tryd.func14, Tryd.ntmps14
          go_upto_region 2 with (first | ((with_reducible refine at_box ?_); refine slb hM ?_ (hty := row_rsg) (hn := HS.out); clear hM; intro g1 w1 hM) | ((with_reducible refine at_load ?_); refine slc hM ?_ (hv := HP.out)))
          refine Go.Bul.wp_region_class (Mem _ w _ _) (by kernel_rfl) (by kernel_rfl) hM.drew ?_
          repeat ((with_reducible refine wpQuiet_step (fun K hK => ?_)); (first | ((first | ((with_reducible refine quiet_some ?_ ?_); (· rfl)) | ((with_reducible refine Go.Thg.quiet_wanted ?_ ?_); (· rfl))); apply Exists.intro; refine ⟨fun w' hM' => ?_, ?_⟩; (· first | (go_simp; rfl) | exact sqc hM' (hv := H0.out) | exact qc hM' | exact ql hM' | exact qp hM')) | ((with_reducible refine Go.Thg.quiet_unwanted ?_ ?_); (· rfl))); go_simp; (with_reducible refine hK _ ?_); clear hK K)
          refine wpQuiet_nil ?_
          intro wx hM
          go_wp2_with fail
          go_ret
          exact ⟨rfl, hM.below⟩
      · rw [if_neg (fun h => hl h.2.1)]
        have r3 : decide (leaf < 0) = true := decide_eq_true (by omega)
        clear h1 h8 hp hp2 hp3 hp4 hl hn
        go_enter Tryd.func14, Tryd.ntmps14
        go_upto_region 2 with (first | ((with_reducible refine at_box ?_); refine slb hM ?_ (hty := row_rsg) (hn := HS.out); clear hM; intro g1 w1 hM) | ((with_reducible refine at_load ?_); refine slc hM ?_ (hv := HP.out)))
        refine Go.Bul.wp_region_class (Mem _ w _ _) (by kernel_rfl) (by kernel_rfl) hM.drew ?_
        repeat ((with_reducible refine wpQuiet_step (fun K hK => ?_)); (first | ((first | ((with_reducible refine quiet_some ?_ ?_); (· rfl)) | ((with_reducible refine Go.Thg.quiet_wanted ?_ ?_); (· rfl))); apply Exists.intro; refine ⟨fun w' hM' => ?_, ?_⟩; (· first | (go_simp; rfl) | exact sqc hM' (hv := H0.out) | exact qc hM' | exact ql hM' | exact qp hM')) | ((with_reducible refine Go.Thg.quiet_unwanted ?_ ?_); (· rfl))); go_simp; (with_reducible refine hK _ ?_); clear hK K)
        refine wpQuiet_nil ?_
        intro wx hM
        go_wp2_with fail
        go_ret
        exact ⟨rfl, hM.below⟩
    · rw [if_neg (fun h => absurd h.1 (by rw [if_neg (by omega)]; decide))]
      have r2 : decide (8 < (n : Int)) = true := decide_eq_true (by omega)
      clear h1 h8 hn
      go_enter Tryd.func14, Tryd.ntmps14
      go_upto_region 2 with (first | ((with_reducible refine at_box ?_); refine slb hM ?_ (hty := row_rsg) (hn := HS.out); clear hM; intro g1 w1 hM) | ((with_reducible refine at_load ?_); refine slc hM ?_ (hv := HP.out)))
      refine Go.Bul.wp_region_class (Mem _ w _ _) (by kernel_rfl) (by kernel_rfl) hM.drew ?_
      repeat ((with_reducible refine wpQuiet_step (fun K hK => ?_)); (first | ((first | ((with_reducible refine quiet_some ?_ ?_); (· rfl)) | ((with_reducible refine Go.Thg.quiet_wanted ?_ ?_); (· rfl))); apply Exists.intro; refine ⟨fun w' hM' => ?_, ?_⟩; (· first | (go_simp; rfl) | exact sqc hM' (hv := H0.out) | exact qc hM' | exact ql hM' | exact qp hM')) | ((with_reducible refine Go.Thg.quiet_unwanted ?_ ?_); (· rfl))); go_simp; (with_reducible refine hK _ ?_); clear hK K)
      refine wpQuiet_nil ?_
      intro wx hM
      go_wp2_with fail
      go_ret
      exact ⟨rfl, hM.below⟩
  · rw [if_neg (fun h => absurd h.1 (by rw [if_neg (by omega)]; decide))]
    have r1 : decide ((n : Int) < 1) = true := decide_eq_true (by omega)
    clear h1 hn
    go_enter Tryd.func14, Tryd.ntmps14
    go_upto_region 2 with (first | ((with_reducible refine at_box ?_); refine slb hM ?_ (hty := row_rsg) (hn := HS.out); clear hM; intro g1 w1 hM) | ((with_reducible refine at_load ?_); refine slc hM ?_ (hv := HP.out)))
    refine Go.Bul.wp_region_class (Mem _ w _ _) (by kernel_rfl) (by kernel_rfl) hM.drew ?_
    repeat ((with_reducible refine wpQuiet_step (fun K hK => ?_)); (first | ((first | ((with_reducible refine quiet_some ?_ ?_); (· rfl)) | ((with_reducible refine Go.Thg.quiet_wanted ?_ ?_); (· rfl))); apply Exists.intro; refine ⟨fun w' hM' => ?_, ?_⟩; (· first | (go_simp; rfl) | exact sqc hM' (hv := H0.out) | exact qc hM' | exact ql hM' | exact qp hM')) | ((with_reducible refine Go.Thg.quiet_unwanted ?_ ?_); (· rfl))); go_simp; (with_reducible refine hK _ ?_); clear hK K)
    refine wpQuiet_nil ?_
    intro wx hM
    go_wp2_with fail
    go_ret
    exact ⟨rfl, hM.below⟩
end Go.Proofs.YtdnnjgjaffkdfaaDoor
