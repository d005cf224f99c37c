/- Contracts of the checks of signers. Contracts of the reference's rotate (at ten counts) and constants. Condition of rotate: the word is below 2^32. Contract of the reference's padded. Condition: fewer than 2^40 bytes. -/
import Derived.Test.YtbbdnlcjjcmllaaDoorVm
import Derived.Test.YtbbdnlcjjcmllaaDoorVe
namespace Go.Lin
open Go
def hE (h : Int) : Int := if 1 ≤ h ∧ h ≤ 8 then 0 else 2
def sgE (leaf : Int) (n : Nat) : Int := if hE (n : Nat) = 0 ∧ 0 ≤ leaf ∧ leaf < 2 ^ n then 0 else 2
theorem hE_nat {n : Nat} (h : hE (n : Nat) = 0) : 1 ≤ n ∧ n ≤ 8 := by
  unfold hE at h
  split at h
  · omega
  · cases h
end Go.Lin
namespace Go.Proofs.YtbbdnlcjjcmllaaDoor
open Go Go.RowKit Go.Bul Go.Thg Go.Lin
set_option maxRecDepth 20000 in
theorem checkH_any (h : Int) (w : World) : Calls Tryd.prog 43 #[.int .i64 h] w fun e w' => e = .returned (.int .i64 (hE h)) ∧ w = w' := by
  unfold hE
  by_cases h1 : 1 ≤ h
  · have c1 : decide (h < 1) = false := decide_eq_false (by omega)
    by_cases h2 : h ≤ 8
    · rw [if_pos ⟨h1, h2⟩]
      have c2 : decide (8 < h) = false := decide_eq_false (by omega)
      clear h1 h2
      go_enter Tryd.func43, Tryd.ntmps43
      go_wp2_with fail
      go_ret
      exact ⟨rfl, rfl⟩
    · rw [if_neg (by omega)]
      have c2 : decide (8 < h) = true := decide_eq_true (by omega)
      clear h1 h2
      go_enter Tryd.func43, Tryd.ntmps43
      go_wp2_with fail
      go_ret
      exact ⟨rfl, rfl⟩
  · rw [if_neg (by omega)]
    have c1 : decide (h < 1) = true := decide_eq_true (by omega)
    clear h1
    go_enter Tryd.func43, Tryd.ntmps43
    go_wp2_with fail
    go_ret
    exact ⟨rfl, rfl⟩
set_option maxRecDepth 20000 in
theorem pcheck_any (h : Int) (r : Nd) (w : World) : Calls Tryd.prog 25 #[.agg (pubC h r)] w fun e w' => e = .returned (.int .i64 (hE h)) ∧ Below w.heap.size w w' := by
  have hM := Mem.start [] w
  have HC := Lib.hid (fun w => checkH_any h w)
  have H0 := Lib.hid (pubC_0 h r)
  have HS := Lib.hid (pubC_size h r)
  generalize pubC h r = X at H0 HS ⊢
  generalize hE h = e1 at HC ⊢
  go_enter Tryd.func25, Tryd.ntmps25
  go_wp2_with (first | ((with_reducible refine (HC.out _).mono ?_); rintro e w1 ⟨rfl, rfl⟩) | ((with_reducible refine at_box ?_); refine slb hM ?_ (hty := row_pub) (hn := HS.out); clear hM; intro g w1 hM) | ((with_reducible refine at_load ?_); refine slc hM ?_ (hv := H0.out)))
  go_ret
  exact ⟨rfl, hM.below⟩
set_option maxRecDepth 20000 in
theorem scheck_any (s : Sd) (h : Int) (w : World) : Calls Tryd.prog 21 #[.agg (secC s h)] w fun e w' => e = .returned (.int .i64 (hE h)) ∧ Below w.heap.size w w' := by
  have hM := Mem.start [] w
  have HC := Lib.hid (fun w => checkH_any h w)
  have H0 := Lib.hid (secC_h s h)
  have HS := Lib.hid (secC_size s h)
  generalize secC s h = X at H0 HS ⊢
  generalize hE h = e1 at HC ⊢
  go_enter Tryd.func21, Tryd.ntmps21
  go_wp2_with (first | ((with_reducible refine (HC.out _).mono ?_); rintro e w1 ⟨rfl, rfl⟩) | ((with_reducible refine at_box ?_); refine slb hM ?_ (hty := row_sec) (hn := HS.out); clear hM; intro g w1 hM) | ((with_reducible refine at_load ?_); refine slc hM ?_ (hv := H0.out)))
  go_ret
  exact ⟨rfl, hM.below⟩
set_option maxRecDepth 20000 in
set_option maxHeartbeats 1000000 in
theorem gcheck_any (leaf : Int) (ch : Ch) (A : Option Addr) (n c : Nat) (w : World) : Calls Tryd.prog 40 #[.agg (sigC leaf ch A n c)] w fun e w' => e = .returned (.int .i64 (sgE leaf n)) ∧ Below w.heap.size w w' := by
  have hM := Mem.start [] w
  have HC := Lib.hid (fun w => checkH_any (n : Nat) w)
  have H0 := Lib.hid (sigC_0 leaf ch A n c)
  have HP := Lib.hid (sigC_p leaf ch A n c)
  have HS := Lib.hid (sigC_size leaf ch A n c)
  generalize sigC leaf ch A n c = X at H0 HP HS ⊢
  unfold sgE
  by_cases hh : hE (n : Nat) = 0
  · obtain ⟨h1, h8⟩ := hE_nat hh
    rw [hh] at HC
    have hp : 2 ^ n ≤ 2 ^ 8 := Nat.pow_le_pow_right (by decide) h8
    have hp2 : (2 : Int) ^ n = ((2 ^ n : Nat) : Int) := by simp
    have hp3 : (0 : Int) ≤ (2 : Int) ^ n := by rw [hp2]; exact Int.natCast_nonneg _
    have hp4 : (2 : Int) ^ n ≤ 256 := by rw [hp2]; omega
    have c4 : wrap64 ((2 : Int) ^ n) = (2 : Int) ^ n := by unfold wrap64; omega
    have c5 : IntKind.i64.wrap ((2 : Int) ^ n) = (2 : Int) ^ n := IntWalk.i64_in _ ⟨by omega, by omega⟩
    have n0 : (0 : Int) ≤ (n : Int) := Int.natCast_nonneg _
    have n1 : (n : Int) ≤ 8 := by omega
    by_cases hl : 0 ≤ leaf
    · have c1 : decide (leaf < 0) = false := decide_eq_false (by omega)
      by_cases hu : leaf < 2 ^ n
      · rw [if_pos ⟨hh, hl, hu⟩]
        have c2 : decide ((2 : Int) ^ n ≤ leaf) = false := decide_eq_false (by omega)
        clear hh h1 h8 hp hp2 hp3 hp4 hl hu
        go_enter Tryd.func40, Tryd.ntmps40
        go_upto_region 1 with (first | ((with_reducible refine at_box ?_); refine slb hM ?_ (hty := row_sgn) (hn := HS.out); clear hM; intro g1 w1 hM))
        obtain ⟨g1, hg1⟩ := hM.name1
        subst hg1
        refine Go.Bul.wp_region_class (Mem _ w _ _) (by kernel_rfl) (by kernel_rfl) hM.drew ?_
        repeat ((with_reducible refine wpQuiet_step (fun K hK => ?_)); (first | ((first | ((with_reducible refine quiet_some ?_ ?_); (· rfl)) | ((with_reducible refine Go.Thg.quiet_wanted ?_ ?_); (· rfl))); apply Exists.intro; refine ⟨fun w' hM' => ?_, ?_⟩; (· first | (go_simp; rfl) | exact sqc hM' (hv := H0.out) | exact sqc hM' (hv := HP.out) | (go_simp; with_reducible refine at_calls ?_; exact quiet_mem_call_same hM' (HC.out _)) | exact qc hM' | exact ql hM' | exact qp hM')) | ((with_reducible refine Go.Thg.quiet_unwanted ?_ ?_); (· rfl))); go_simp; (with_reducible refine hK _ ?_); clear hK K)
        refine wpQuiet_nil ?_
        intro wx hM
        go_wp2_with fail
        go_ret
        exact ⟨rfl, hM.below⟩
      · rw [if_neg (by omega)]
        have c2 : decide ((2 : Int) ^ n ≤ leaf) = true := decide_eq_true (by omega)
        clear hh h1 h8 hp hp2 hp3 hp4 hl hu
        go_enter Tryd.func40, Tryd.ntmps40
        go_upto_region 1 with (first | ((with_reducible refine at_box ?_); refine slb hM ?_ (hty := row_sgn) (hn := HS.out); clear hM; intro g1 w1 hM))
        obtain ⟨g1, hg1⟩ := hM.name1
        subst hg1
        refine Go.Bul.wp_region_class (Mem _ w _ _) (by kernel_rfl) (by kernel_rfl) hM.drew ?_
        repeat ((with_reducible refine wpQuiet_step (fun K hK => ?_)); (first | ((first | ((with_reducible refine quiet_some ?_ ?_); (· rfl)) | ((with_reducible refine Go.Thg.quiet_wanted ?_ ?_); (· rfl))); apply Exists.intro; refine ⟨fun w' hM' => ?_, ?_⟩; (· first | (go_simp; rfl) | exact sqc hM' (hv := H0.out) | exact sqc hM' (hv := HP.out) | (go_simp; with_reducible refine at_calls ?_; exact quiet_mem_call_same hM' (HC.out _)) | exact qc hM' | exact ql hM' | exact qp hM')) | ((with_reducible refine Go.Thg.quiet_unwanted ?_ ?_); (· rfl))); go_simp; (with_reducible refine hK _ ?_); clear hK K)
        refine wpQuiet_nil ?_
        intro wx hM
        go_wp2_with fail
        go_ret
        exact ⟨rfl, hM.below⟩
    · rw [if_neg (by omega)]
      have c1 : decide (leaf < 0) = true := decide_eq_true (by omega)
      clear hh h1 h8 hp hp2 hp3 hp4 hl
      go_enter Tryd.func40, Tryd.ntmps40
      go_upto_region 1 with (first | ((with_reducible refine at_box ?_); refine slb hM ?_ (hty := row_sgn) (hn := HS.out); clear hM; intro g1 w1 hM))
      obtain ⟨g1, hg1⟩ := hM.name1
      subst hg1
      refine Go.Bul.wp_region_class (Mem _ w _ _) (by kernel_rfl) (by kernel_rfl) hM.drew ?_
      repeat ((with_reducible refine wpQuiet_step (fun K hK => ?_)); (first | ((first | ((with_reducible refine quiet_some ?_ ?_); (· rfl)) | ((with_reducible refine Go.Thg.quiet_wanted ?_ ?_); (· rfl))); apply Exists.intro; refine ⟨fun w' hM' => ?_, ?_⟩; (· first | (go_simp; rfl) | exact sqc hM' (hv := H0.out) | exact sqc hM' (hv := HP.out) | (go_simp; with_reducible refine at_calls ?_; exact quiet_mem_call_same hM' (HC.out _)) | exact qc hM' | exact ql hM' | exact qp hM')) | ((with_reducible refine Go.Thg.quiet_unwanted ?_ ?_); (· rfl))); go_simp; (with_reducible refine hK _ ?_); clear hK K)
      refine wpQuiet_nil ?_
      intro wx hM
      go_wp2_with fail
      go_ret
      exact ⟨rfl, hM.below⟩
  · rw [if_neg (by simp [hh])]
    have q1 : (hE (n : Nat) != 0) = true := by simpa using hh
    generalize hE (n : Nat) = e1 at HC q1
    clear hh
    go_enter Tryd.func40, Tryd.ntmps40
    go_upto_region 1 with (first | ((with_reducible refine at_box ?_); refine slb hM ?_ (hty := row_sgn) (hn := HS.out); clear hM; intro g1 w1 hM))
    obtain ⟨g1, hg1⟩ := hM.name1
    subst hg1
    refine Go.Bul.wp_region_class (Mem _ w _ _) (by kernel_rfl) (by kernel_rfl) hM.drew ?_
    repeat ((with_reducible refine wpQuiet_step (fun K hK => ?_)); (first | ((first | ((with_reducible refine quiet_some ?_ ?_); (· rfl)) | ((with_reducible refine Go.Thg.quiet_wanted ?_ ?_); (· rfl))); apply Exists.intro; refine ⟨fun w' hM' => ?_, ?_⟩; (· first | (go_simp; rfl) | exact sqc hM' (hv := H0.out) | exact sqc hM' (hv := HP.out) | (go_simp; with_reducible refine at_calls ?_; exact quiet_mem_call_same hM' (HC.out _)) | exact qc hM' | exact ql hM' | exact qp hM')) | ((with_reducible refine Go.Thg.quiet_unwanted ?_ ?_); (· rfl))); go_simp; (with_reducible refine hK _ ?_); clear hK K)
    refine wpQuiet_nil ?_
    intro wx hM
    go_wp2_with fail
    go_ret
    exact ⟨rfl, hM.below⟩
end Go.Proofs.YtbbdnlcjjcmllaaDoor
namespace Go.Proofs.YtbbdnlcjjcmllaaDoor
open Go Go.RowKit Go.Bul
end Go.Proofs.YtbbdnlcjjcmllaaDoor
namespace Go.Proofs.YtbbdnlcjjcmllaaDoor
open Go Go.RowKit Go.Bul
end Go.Proofs.YtbbdnlcjjcmllaaDoor
