/- Contract of the reference's Check. -/
import Derived.Test.YtenflgbaibjeoaaLcb
import Derived.Test.YtenflgbaibjeoaaMnc
namespace Go.Lin
/-- The end of the window before. -/
def prev (ws : List Win) (k : Nat) : Int := match k with | 0 => 0 | k + 1 => (ws[k]?.getD (0, 0)).2
theorem prev_succ {ws : List Win} {k : Nat} (h : k < ws.length) : prev ws (k + 1) = ws[k].2 := by simp [prev, h]
end Go.Lin
namespace Go.Proofs.Ytenflgbaibjeoaa
open Go Go.RowKit Go.Bul Go.Thg Go.Lin
set_option maxRecDepth 20000 in
set_option maxHeartbeats 4000000 in
theorem rcheck_loop (r d p : Int) (A : Option Addr) (n c : Nat) (ws : List Win) (w : World) (hn : n ≤ 32) (hW : Wins w A n ws) (h1 : 1 ≤ r) (h2 : r ≤ 1048576) (h3 : 0 ≤ d) (h4 : d ≤ 1440) (h5 : 0 ≤ p) (h6 : p ≤ 10000000) :
    Calls Try.prog 22 #[cfgV r d p A n c] w fun e w' => e = .returned (.int .i64 (chkW (mostOf p) 0 ws)) ∧ Below w.heap.size w w' := by
  have hM := Mem.start [] w
  obtain ⟨q, hq⟩ : ∃ q, q = mostOf p := ⟨_, rfl⟩
  have HQ := Lib.hid hq
  rw [← hq]
  clear hq
  have HW := Lib.hid hW
  have HL := Lib.hid hW.len
  clear hW
  obtain ⟨R, hR⟩ : ∃ R, R = chkW q 0 ws := ⟨_, rfl⟩
  rw [← hR]
  have HR0 := Lib.hid hR
  clear hR
  have s1 : decide (r < 1) = false := by simpa using h1
  have s2 : decide (1048576 < r) = false := by simpa using h2
  have s3 : decide (d < 0) = false := by simpa using h3
  have s4 : decide (1440 < d) = false := by simpa using h4
  have s5 : decide (p < 0) = false := by simpa using h5
  have s6 : decide (10000000 < p) = false := by simpa using h6
  have s7 : decide ((32 : Int) < (n : Int)) = false := by simp; omega
  by_cases hp0 : p = 0
  all_goals
    first
    | (have t1 : (p == 0) = true := by simp [hp0]
       have hqe : 10000000 = q := by rw [HQ.out, hp0]; rfl)
    | (have t1 : (p == 0) = false := by simp [hp0]
       have hqe : p = q := by rw [HQ.out]; unfold mostOf; rw [if_neg hp0])
    have HE := Lib.hid hqe
    clear hqe hp0 h1 h2 h3 h4 h5 h6
    go_enter Try.func22, Try.ntmps22
    go_wp2_with (first | ((first | with_reducible refine at_load ?_ | ((with_reducible refine at_load_g ?_ ?_); (· rfl))); first | refine lc hM ?_ | refine ll hM ?_ | refine lp hM ?_) | ((with_reducible refine at_store ?_); first | (refine ls hM ?_; clear hM; intro wx hM) | (refine lw hM ?_; clear hM; intro wx hM) | (refine lt hM ?_; clear hM; intro wx hM)) | ((with_reducible refine at_alloc ?_); refine lz hM ?_; clear hM; intro gx wx hM) | ((with_reducible refine at_box ?_); refine lb hM ?_; clear hM; intro gx wx hM))
    rw [HE.out]
    clear t1 s1 s2 s3 s4 s5 s6 s7
    obtain ⟨g0, rfl⟩ := hM.name1
    have M0 := Lib.hid hM
    clear hM
    go_loopw [4] (fun i wr => ∃ k : Nat, k ≤ n ∧ i = .int .i64 (k : Nat) ∧ Hid (R = chkW q (prev ws k) (ws.drop k)) ∧ Mem [] w [⟨g0, 42, 4, cfgCs r d p A n c⟩] [] wr) (fun i _ => n - (intOf i).toNat)
    case atStart => exact ⟨0, by omega, rfl, HR0, M0.out⟩
    case round =>
      obtain ⟨k, hk, rfl, HC, hM⟩ := hrel
      by_cases hlt : k < n
      · have hkl : k < ws.length := by have := HL.out; omega
        obtain ⟨z, hz⟩ : ∃ z, z = prev ws k := ⟨_, rfl⟩
        have hst := chkW_step (most := q) (b := z) hkl
        have hHC := HC.out
        rw [← hz] at hHC
        clear HC
        have HC := Lib.hid hHC
        clear hHC
        obtain ⟨g, off, rfl, hgl, _⟩ := HW.out.2 (by omega)
        have hcell := (HW.out.keep hM.below).cell k hkl
        have hps := prev_succ hkl
        obtain ⟨f, hf⟩ : ∃ f, f = ws[k].1 := ⟨_, rfl⟩
        obtain ⟨t, ht⟩ : ∃ t, t = ws[k].2 := ⟨_, rfl⟩
        rw [← hf, ← ht] at hcell hst
        rw [← ht] at hps
        have HPS := Lib.hid hps
        have HX := Lib.hid hcell
        clear hcell hf ht hps
        have hk0 : (0 : Int) ≤ (k : Int) := Int.natCast_nonneg _
        have hk1 : (k : Int) < (n : Int) := by omega
        by_cases a1 : f < 0
        · have hr : R = 2 := by rw [HC.out, hst, if_pos (.inl a1)]
          have HR := Lib.hid hr
          clear hst hr hz
          have c1 : decide (f < 0) = true := by simpa using a1
          go_wp2_with (first | ((with_reducible refine at_load ?_); refine lr HX.out ?_) | ((first | with_reducible refine at_load ?_ | ((with_reducible refine at_load_g ?_ ?_); (· rfl))); first | refine lc hM ?_ | refine ll hM ?_ | refine lp hM ?_) | ((with_reducible refine at_store ?_); first | (refine ls hM ?_; clear hM; intro wx hM) | (refine lw hM ?_; clear hM; intro wx hM) | (refine lt hM ?_; clear hM; intro wx hM)) | ((with_reducible refine at_alloc ?_); refine lz hM ?_; clear hM; intro gx wx hM) | ((with_reducible refine at_box ?_); refine lb hM ?_; clear hM; intro gx wx hM))
          go_ret
          exact ⟨ret_i HR.out.symm, hM.below⟩
        · have c1 : decide (f < 0) = false := by simpa using a1
          by_cases a2 : t ≤ f
          · have hr : R = 2 := by rw [HC.out, hst, if_pos (.inr (.inl a2))]
            have HR := Lib.hid hr
            clear hst hr a1 hz
            have c2 : decide (t ≤ f) = true := by simpa using a2
            go_wp2_with (first | ((with_reducible refine at_load ?_); refine lr HX.out ?_) | ((first | with_reducible refine at_load ?_ | ((with_reducible refine at_load_g ?_ ?_); (· rfl))); first | refine lc hM ?_ | refine ll hM ?_ | refine lp hM ?_) | ((with_reducible refine at_store ?_); first | (refine ls hM ?_; clear hM; intro wx hM) | (refine lw hM ?_; clear hM; intro wx hM) | (refine lt hM ?_; clear hM; intro wx hM)) | ((with_reducible refine at_alloc ?_); refine lz hM ?_; clear hM; intro gx wx hM) | ((with_reducible refine at_box ?_); refine lb hM ?_; clear hM; intro gx wx hM))
            go_ret
            exact ⟨ret_i HR.out.symm, hM.below⟩
          · have c2 : decide (t ≤ f) = false := by simp; omega
            by_cases a3 : q < t
            · have hr : R = 2 := by rw [HC.out, hst, if_pos (.inr (.inr a3))]
              have HR := Lib.hid hr
              clear hst hr a1 a2 hz
              have c3 : decide (q < t) = true := by simpa using a3
              go_wp2_with (first | ((with_reducible refine at_load ?_); refine lr HX.out ?_) | ((first | with_reducible refine at_load ?_ | ((with_reducible refine at_load_g ?_ ?_); (· rfl))); first | refine lc hM ?_ | refine ll hM ?_ | refine lp hM ?_) | ((with_reducible refine at_store ?_); first | (refine ls hM ?_; clear hM; intro wx hM) | (refine lw hM ?_; clear hM; intro wx hM) | (refine lt hM ?_; clear hM; intro wx hM)) | ((with_reducible refine at_alloc ?_); refine lz hM ?_; clear hM; intro gx wx hM) | ((with_reducible refine at_box ?_); refine lb hM ?_; clear hM; intro gx wx hM))
              go_ret
              exact ⟨ret_i HR.out.symm, hM.below⟩
            · have c3 : decide (q < t) = false := by simp; omega
              rw [if_neg (by omega)] at hst
              by_cases hk00 : k = 0
              · subst hk00
                have hr : R = chkW q t (ws.drop (0 + 1)) := by rw [HC.out, hst, if_neg (by rw [hz]; show ¬ f < 0; exact a1)]
                have HR := Lib.hid hr
                clear hst hr a1 a2 a3 hz
                have HY : Hid (∀ w', Below w.heap.size w w' → w'.cell? ⟨0, 0, none⟩ = w'.cell? ⟨0, 0, none⟩) := Lib.hid fun _ _ => rfl
                have cp : decide ((0 : Int) < ((0 : Nat) : Int)) = false := rfl
                go_wp2_with (first | ((with_reducible refine at_load ?_); refine lr HX.out ?_) | ((first | with_reducible refine at_load ?_ | ((with_reducible refine at_load_g ?_ ?_); (· rfl))); first | refine lc hM ?_ | refine ll hM ?_ | refine lp hM ?_) | ((with_reducible refine at_store ?_); first | (refine ls hM ?_; clear hM; intro wx hM) | (refine lw hM ?_; clear hM; intro wx hM) | (refine lt hM ?_; clear hM; intro wx hM)) | ((with_reducible refine at_alloc ?_); refine lz hM ?_; clear hM; intro gx wx hM) | ((with_reducible refine at_box ?_); refine lb hM ?_; clear hM; intro gx wx hM))
                refine Go.Bul.wp_region_class (Mem _ w _ _) (by kernel_rfl) (by kernel_rfl) hM.drew ?_
                repeat ((with_reducible refine wpQuiet_step (fun K hK => ?_)); (first | ((first | ((with_reducible refine quiet_some ?_ ?_); (· rfl)) | ((with_reducible refine quiet_wanted ?_ ?_); (· rfl))); apply Exists.intro; refine ⟨fun w' hM' => ?_, ?_⟩; (· first | exact qc hM' | exact ql hM' | exact qp hM' | exact qo (HY.out _ hM'.below) | (go_simp; rfl))) | ((with_reducible refine quiet_unwanted ?_ ?_); (· rfl))); go_simp; (with_reducible refine hK _ ?_); clear hK K)
                refine wpQuiet_nil ?_
                intro wx hM
                go_wp2_with (first | ((first | with_reducible refine at_load ?_ | ((with_reducible refine at_load_g ?_ ?_); (· rfl))); first | refine lc hM ?_ | refine ll hM ?_ | refine lp hM ?_) | ((with_reducible refine at_store ?_); first | (refine ls hM ?_; clear hM; intro wx hM) | (refine lw hM ?_; clear hM; intro wx hM) | (refine lt hM ?_; clear hM; intro wx hM)) | ((with_reducible refine at_alloc ?_); refine lz hM ?_; clear hM; intro gx wx hM) | ((with_reducible refine at_box ?_); refine lb hM ?_; clear hM; intro gx wx hM))
                exact ⟨⟨0 + 1, by omega, by go_num, by rw [HPS.out]; exact HR, ((hM.subL (by repeat (first | exact List.Sublist.refl _ | exact List.nil_sublist _ | apply List.Sublist.cons_cons | apply List.Sublist.cons))).subR (by repeat (first | exact List.Sublist.refl _ | exact List.nil_sublist _ | apply List.Sublist.cons_cons | apply List.Sublist.cons)))⟩, by simp [intOf]; omega⟩
              · have hkp : 0 < k := by omega
                have cp : decide ((0 : Int) < (k : Int)) = true := by simp; omega
                have cp2 : decide (0 < k) = true := by simp; omega
                have HY : Hid (∀ w', Below w.heap.size w w' → w'.cell? ⟨g, off + (k - 1) * 2 + 1, none⟩ = some (.int .i64 z)) := Lib.hid fun w' hb => by
                  have := (HW.out.keep hb).c1 (k - 1) (by omega)
                  rw [this]
                  rw [hz]
                  congr 2
                  obtain ⟨j, rfl⟩ : ∃ j, k = j + 1 := ⟨k - 1, by omega⟩
                  rw [prev_succ (by omega)]
                  rfl
                have hkm : IntKind.i64.wrap ((k : Int) - 1) = ((k - 1 : Nat) : Int) := by rw [IntWalk.i64_in _ (by omega)]; omega
                have hkm0 : (0 : Int) ≤ ((k - 1 : Nat) : Int) := by omega
                have hkm1 : ((k - 1 : Nat) : Int) < (n : Int) := by omega
                by_cases a4 : f < z
                · have hr : R = 30 := by rw [HC.out, hst, if_pos a4]
                  have HR := Lib.hid hr
                  clear hst hr a1 a2 a3 hz hk00
                  have c4 : decide (f < z) = true := by simpa using a4
                  go_wp2_with (first | ((with_reducible refine at_load ?_); refine lr HX.out ?_) | ((first | with_reducible refine at_load ?_ | ((with_reducible refine at_load_g ?_ ?_); (· rfl))); first | refine lc hM ?_ | refine ll hM ?_ | refine lp hM ?_) | ((with_reducible refine at_store ?_); first | (refine ls hM ?_; clear hM; intro wx hM) | (refine lw hM ?_; clear hM; intro wx hM) | (refine lt hM ?_; clear hM; intro wx hM)) | ((with_reducible refine at_alloc ?_); refine lz hM ?_; clear hM; intro gx wx hM) | ((with_reducible refine at_box ?_); refine lb hM ?_; clear hM; intro gx wx hM))
                  refine Go.Bul.wp_region_class (Mem _ w _ _) (by kernel_rfl) (by kernel_rfl) hM.drew ?_
                  repeat ((with_reducible refine wpQuiet_step (fun K hK => ?_)); (first | ((first | ((with_reducible refine quiet_some ?_ ?_); (· rfl)) | ((with_reducible refine quiet_wanted ?_ ?_); (· rfl))); apply Exists.intro; refine ⟨fun w' hM' => ?_, ?_⟩; (· first | exact qc hM' | exact ql hM' | exact qp hM' | exact qo (HY.out _ hM'.below) | (go_simp; rfl))) | ((with_reducible refine quiet_unwanted ?_ ?_); (· rfl))); go_simp; (with_reducible refine hK _ ?_); clear hK K)
                  refine wpQuiet_nil ?_
                  intro wx hM
                  go_wp2_with (first | ((first | with_reducible refine at_load ?_ | ((with_reducible refine at_load_g ?_ ?_); (· rfl))); first | refine lc hM ?_ | refine ll hM ?_ | refine lp hM ?_) | ((with_reducible refine at_store ?_); first | (refine ls hM ?_; clear hM; intro wx hM) | (refine lw hM ?_; clear hM; intro wx hM) | (refine lt hM ?_; clear hM; intro wx hM)) | ((with_reducible refine at_alloc ?_); refine lz hM ?_; clear hM; intro gx wx hM) | ((with_reducible refine at_box ?_); refine lb hM ?_; clear hM; intro gx wx hM))
                  go_ret
                  exact ⟨ret_i HR.out.symm, hM.below⟩
                · have hr : R = chkW q t (ws.drop (k + 1)) := by rw [HC.out, hst, if_neg a4]
                  have HR := Lib.hid hr
                  have c4 : decide (f < z) = false := by simp; omega
                  clear hst hr a1 a2 a3 a4 hz hk00
                  go_wp2_with (first | ((with_reducible refine at_load ?_); refine lr HX.out ?_) | ((first | with_reducible refine at_load ?_ | ((with_reducible refine at_load_g ?_ ?_); (· rfl))); first | refine lc hM ?_ | refine ll hM ?_ | refine lp hM ?_) | ((with_reducible refine at_store ?_); first | (refine ls hM ?_; clear hM; intro wx hM) | (refine lw hM ?_; clear hM; intro wx hM) | (refine lt hM ?_; clear hM; intro wx hM)) | ((with_reducible refine at_alloc ?_); refine lz hM ?_; clear hM; intro gx wx hM) | ((with_reducible refine at_box ?_); refine lb hM ?_; clear hM; intro gx wx hM))
                  refine Go.Bul.wp_region_class (Mem _ w _ _) (by kernel_rfl) (by kernel_rfl) hM.drew ?_
                  repeat ((with_reducible refine wpQuiet_step (fun K hK => ?_)); (first | ((first | ((with_reducible refine quiet_some ?_ ?_); (· rfl)) | ((with_reducible refine quiet_wanted ?_ ?_); (· rfl))); apply Exists.intro; refine ⟨fun w' hM' => ?_, ?_⟩; (· first | exact qc hM' | exact ql hM' | exact qp hM' | exact qo (HY.out _ hM'.below) | (go_simp; rfl))) | ((with_reducible refine quiet_unwanted ?_ ?_); (· rfl))); go_simp; (with_reducible refine hK _ ?_); clear hK K)
                  refine wpQuiet_nil ?_
                  intro wx hM
                  go_wp2_with (first | ((first | with_reducible refine at_load ?_ | ((with_reducible refine at_load_g ?_ ?_); (· rfl))); first | refine lc hM ?_ | refine ll hM ?_ | refine lp hM ?_) | ((with_reducible refine at_store ?_); first | (refine ls hM ?_; clear hM; intro wx hM) | (refine lw hM ?_; clear hM; intro wx hM) | (refine lt hM ?_; clear hM; intro wx hM)) | ((with_reducible refine at_alloc ?_); refine lz hM ?_; clear hM; intro gx wx hM) | ((with_reducible refine at_box ?_); refine lb hM ?_; clear hM; intro gx wx hM))
                  exact ⟨⟨k + 1, by omega, by go_num, by rw [HPS.out]; exact HR, ((hM.subL (by repeat (first | exact List.Sublist.refl _ | exact List.nil_sublist _ | apply List.Sublist.cons_cons | apply List.Sublist.cons))).subR (by repeat (first | exact List.Sublist.refl _ | exact List.nil_sublist _ | apply List.Sublist.cons_cons | apply List.Sublist.cons)))⟩, by simp [intOf]; omega⟩
      · obtain rfl : k = n := by omega
        have hr : R = 0 := by rw [HC.out, List.drop_of_length_le (by have := HL.out; omega)]; rfl
        have HR := Lib.hid hr
        clear hr
        go_wp2_with (first | ((first | with_reducible refine at_load ?_ | ((with_reducible refine at_load_g ?_ ?_); (· rfl))); first | refine lc hM ?_ | refine ll hM ?_ | refine lp hM ?_) | ((with_reducible refine at_store ?_); first | (refine ls hM ?_; clear hM; intro wx hM) | (refine lw hM ?_; clear hM; intro wx hM) | (refine lt hM ?_; clear hM; intro wx hM)) | ((with_reducible refine at_alloc ?_); refine lz hM ?_; clear hM; intro gx wx hM) | ((with_reducible refine at_box ?_); refine lb hM ?_; clear hM; intro gx wx hM))
        go_ret
        exact ⟨ret_i HR.out.symm, hM.below⟩
end Go.Proofs.Ytenflgbaibjeoaa
