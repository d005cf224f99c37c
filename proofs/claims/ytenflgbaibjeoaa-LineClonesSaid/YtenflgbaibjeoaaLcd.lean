/- Contract of the reference's Check, all ways. -/
import Derived.Test.YtenflgbaibjeoaaLcc
namespace Go.Proofs.Ytenflgbaibjeoaa
open Go Go.RowKit Go.Bul Go.Thg Go.Lin
set_option maxRecDepth 20000 in
set_option maxHeartbeats 4000000 in
theorem rcheck_any (r d p : Int) (A : Option Addr) (n c : Nat) (ws : List Win) (w : World) (hn : n ≤ 1000) (hW : Wins w A n ws) :
    Calls Try.prog 22 #[cfgV r d p A n c] w fun e w' => e = .returned (.int .i64 (chk r d p ws)) ∧ Below w.heap.size w w' := by
  have hl := hW.len
  rcases (show r < 1 ∨ 1 ≤ r by omega) with h1 | h1
  · have s1 : decide (r < 1) = true := by simpa using h1
    have hbad : badC r d p := by unfold badC; omega
    have e : chk r d p ws = 2 := by unfold chk; rw [if_pos hbad]
    rw [e]
    clear e hbad
    have hM := Mem.start [] w
    go_enter Try.func22, Try.ntmps22
    go_wp2_with (first | ((first | with_reducible refine at_load ?_ | ((with_reducible refine at_load_g ?_ ?_); (· rfl))); first | refine lc hM ?_ | refine ll hM ?_ | refine lp hM ?_) | ((with_reducible refine at_store ?_); first | (refine ls hM ?_; clear hM; intro wx hM) | (refine lw hM ?_; clear hM; intro wx hM) | (refine lt hM ?_; clear hM; intro wx hM)) | ((with_reducible refine at_alloc ?_); refine lz hM ?_; clear hM; intro gx wx hM) | ((with_reducible refine at_box ?_); refine lb hM ?_; clear hM; intro gx wx hM))
    go_ret
    exact ⟨rfl, hM.below⟩
  have s1 : decide (r < 1) = false := by simpa using h1
  rcases (show 1048576 < r ∨ r ≤ 1048576 by omega) with h2 | h2
  · have s2 : decide (1048576 < r) = true := by simpa using h2
    have hbad : badC r d p := by unfold badC; omega
    have e : chk r d p ws = 2 := by unfold chk; rw [if_pos hbad]
    rw [e]
    clear e hbad
    have hM := Mem.start [] w
    go_enter Try.func22, Try.ntmps22
    go_wp2_with (first | ((first | with_reducible refine at_load ?_ | ((with_reducible refine at_load_g ?_ ?_); (· rfl))); first | refine lc hM ?_ | refine ll hM ?_ | refine lp hM ?_) | ((with_reducible refine at_store ?_); first | (refine ls hM ?_; clear hM; intro wx hM) | (refine lw hM ?_; clear hM; intro wx hM) | (refine lt hM ?_; clear hM; intro wx hM)) | ((with_reducible refine at_alloc ?_); refine lz hM ?_; clear hM; intro gx wx hM) | ((with_reducible refine at_box ?_); refine lb hM ?_; clear hM; intro gx wx hM))
    go_ret
    exact ⟨rfl, hM.below⟩
  have s2 : decide (1048576 < r) = false := by simpa using h2
  rcases (show d < 0 ∨ 0 ≤ d by omega) with h3 | h3
  · have s3 : decide (d < 0) = true := by simpa using h3
    have hbad : badC r d p := by unfold badC; omega
    have e : chk r d p ws = 2 := by unfold chk; rw [if_pos hbad]
    rw [e]
    clear e hbad
    have hM := Mem.start [] w
    go_enter Try.func22, Try.ntmps22
    go_wp2_with (first | ((first | with_reducible refine at_load ?_ | ((with_reducible refine at_load_g ?_ ?_); (· rfl))); first | refine lc hM ?_ | refine ll hM ?_ | refine lp hM ?_) | ((with_reducible refine at_store ?_); first | (refine ls hM ?_; clear hM; intro wx hM) | (refine lw hM ?_; clear hM; intro wx hM) | (refine lt hM ?_; clear hM; intro wx hM)) | ((with_reducible refine at_alloc ?_); refine lz hM ?_; clear hM; intro gx wx hM) | ((with_reducible refine at_box ?_); refine lb hM ?_; clear hM; intro gx wx hM))
    go_ret
    exact ⟨rfl, hM.below⟩
  have s3 : decide (d < 0) = false := by simpa using h3
  rcases (show 1440 < d ∨ d ≤ 1440 by omega) with h4 | h4
  · have s4 : decide (1440 < d) = true := by simpa using h4
    have hbad : badC r d p := by unfold badC; omega
    have e : chk r d p ws = 2 := by unfold chk; rw [if_pos hbad]
    rw [e]
    clear e hbad
    have hM := Mem.start [] w
    go_enter Try.func22, Try.ntmps22
    go_wp2_with (first | ((first | with_reducible refine at_load ?_ | ((with_reducible refine at_load_g ?_ ?_); (· rfl))); first | refine lc hM ?_ | refine ll hM ?_ | refine lp hM ?_) | ((with_reducible refine at_store ?_); first | (refine ls hM ?_; clear hM; intro wx hM) | (refine lw hM ?_; clear hM; intro wx hM) | (refine lt hM ?_; clear hM; intro wx hM)) | ((with_reducible refine at_alloc ?_); refine lz hM ?_; clear hM; intro gx wx hM) | ((with_reducible refine at_box ?_); refine lb hM ?_; clear hM; intro gx wx hM))
    go_ret
    exact ⟨rfl, hM.below⟩
  have s4 : decide (1440 < d) = false := by simpa using h4
  rcases (show p < 0 ∨ 0 ≤ p by omega) with h5 | h5
  · have s5 : decide (p < 0) = true := by simpa using h5
    have hbad : badC r d p := by unfold badC; omega
    have e : chk r d p ws = 2 := by unfold chk; rw [if_pos hbad]
    rw [e]
    clear e hbad
    have hM := Mem.start [] w
    go_enter Try.func22, Try.ntmps22
    go_wp2_with (first | ((first | with_reducible refine at_load ?_ | ((with_reducible refine at_load_g ?_ ?_); (· rfl))); first | refine lc hM ?_ | refine ll hM ?_ | refine lp hM ?_) | ((with_reducible refine at_store ?_); first | (refine ls hM ?_; clear hM; intro wx hM) | (refine lw hM ?_; clear hM; intro wx hM) | (refine lt hM ?_; clear hM; intro wx hM)) | ((with_reducible refine at_alloc ?_); refine lz hM ?_; clear hM; intro gx wx hM) | ((with_reducible refine at_box ?_); refine lb hM ?_; clear hM; intro gx wx hM))
    go_ret
    exact ⟨rfl, hM.below⟩
  have s5 : decide (p < 0) = false := by simpa using h5
  rcases (show 10000000 < p ∨ p ≤ 10000000 by omega) with h6 | h6
  · have s6 : decide (10000000 < p) = true := by simpa using h6
    have hbad : badC r d p := by unfold badC; omega
    have e : chk r d p ws = 2 := by unfold chk; rw [if_pos hbad]
    rw [e]
    clear e hbad
    have hM := Mem.start [] w
    go_enter Try.func22, Try.ntmps22
    go_wp2_with (first | ((first | with_reducible refine at_load ?_ | ((with_reducible refine at_load_g ?_ ?_); (· rfl))); first | refine lc hM ?_ | refine ll hM ?_ | refine lp hM ?_) | ((with_reducible refine at_store ?_); first | (refine ls hM ?_; clear hM; intro wx hM) | (refine lw hM ?_; clear hM; intro wx hM) | (refine lt hM ?_; clear hM; intro wx hM)) | ((with_reducible refine at_alloc ?_); refine lz hM ?_; clear hM; intro gx wx hM) | ((with_reducible refine at_box ?_); refine lb hM ?_; clear hM; intro gx wx hM))
    go_ret
    exact ⟨rfl, hM.below⟩
  have s6 : decide (10000000 < p) = false := by simpa using h6
  have hgood : ¬ badC r d p := by unfold badC; omega
  by_cases h7 : 32 < n
  · have s7 : decide ((32 : Int) < (n : Int)) = true := by simp; omega
    have e : chk r d p ws = 9 := by unfold chk; rw [if_neg hgood, if_pos (by omega)]
    rw [e]
    clear e hgood
    have hM := Mem.start [] w
    go_enter Try.func22, Try.ntmps22
    go_wp2_with (first | ((first | with_reducible refine at_load ?_ | ((with_reducible refine at_load_g ?_ ?_); (· rfl))); first | refine lc hM ?_ | refine ll hM ?_ | refine lp hM ?_) | ((with_reducible refine at_store ?_); first | (refine ls hM ?_; clear hM; intro wx hM) | (refine lw hM ?_; clear hM; intro wx hM) | (refine lt hM ?_; clear hM; intro wx hM)) | ((with_reducible refine at_alloc ?_); refine lz hM ?_; clear hM; intro gx wx hM) | ((with_reducible refine at_box ?_); refine lb hM ?_; clear hM; intro gx wx hM))
    go_ret
    exact ⟨rfl, hM.below⟩
  · have e : chk r d p ws = chkW (mostOf p) 0 ws := by unfold chk; rw [if_neg hgood, if_neg (by omega)]
    rw [e]
    exact rcheck_loop r d p A n c ws w (by omega) hW h1 h2 h3 h4 h5 h6
end Go.Proofs.Ytenflgbaibjeoaa
