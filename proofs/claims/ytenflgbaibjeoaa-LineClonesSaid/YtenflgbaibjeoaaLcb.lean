/- Contract of line.Config.Check. -/
import Derived.Test.YtenflgbaibjeoaaLca
namespace Go.Lin
theorem chkW_step {most b : Int} {ws : List Win} {k : Nat} (h : k < ws.length) : chkW most b (ws.drop k) = if ws[k].1 < 0 ∨ ws[k].2 ≤ ws[k].1 ∨ most < ws[k].2 then 2 else if ws[k].1 < b then 30 else chkW most ws[k].2 (ws.drop (k + 1)) := by
  rw [List.drop_eq_getElem_cons h]
  rfl
end Go.Lin
namespace Go.Proofs.Ytenflgbaibjeoaa
open Go Go.RowKit Go.Bul Go.Thg Go.Lin
set_option maxRecDepth 20000 in
set_option maxHeartbeats 4000000 in
theorem check_loop (r d p : Int) (A : Option Addr) (n c : Nat) (ws : List Win) (w : World) (hn : n ≤ 32) (hW : Wins w A n ws) (h1 : 1 ≤ r) (h2 : r ≤ 1048576) (h3 : 0 ≤ d) (h4 : d ≤ 1440) (h5 : 0 ≤ p) (h6 : p ≤ 10000000) :
    Calls Try.prog 23 #[cfgV r d p A n c] w fun e w' => e = .returned (.int .i64 (chkW (mostOf p) 0 ws)) ∧ Below w.heap.size w w' := by
  have hM := Mem.start [] w
  obtain ⟨q, hq⟩ : ∃ q, q = mostOf p := ⟨_, rfl⟩
  have HQ := Lib.hid hq
  rw [← hq]
  clear hq
  have HW := Lib.hid hW
  have HL := Lib.hid hW.len
  clear hW
  obtain ⟨R, hR⟩ : ∃ R, R = chkW q 0 ws := ⟨_, rfl⟩
  rw [← hR]
  have HR0 := Lib.hid hR
  clear hR
  have s1 : decide (r < 1) = false := by simpa using h1
  have s2 : decide (1048576 < r) = false := by simpa using h2
  have s3 : decide (d < 0) = false := by simpa using h3
  have s4 : decide (1440 < d) = false := by simpa using h4
  have s5 : decide (p < 0) = false := by simpa using h5
  have s6 : decide (10000000 < p) = false := by simpa using h6
  have s7 : decide ((32 : Int) < (n : Int)) = false := by simp; omega
  by_cases hp0 : p = 0
  all_goals
    first
    | (have t1 : (p == 0) = true := by simp [hp0]
       have hqe : 10000000 = q := by rw [HQ.out, hp0]; rfl)
    | (have t1 : (p == 0) = false := by simp [hp0]
       have hqe : p = q := by rw [HQ.out]; unfold mostOf; rw [if_neg hp0])
    have HE := Lib.hid hqe
    clear hqe hp0 h1 h2 h3 h4 h5 h6
    go_enter Try.func23, Try.ntmps23
    go_wp2_with (first | ((first | with_reducible refine at_load ?_ | ((with_reducible refine at_load_g ?_ ?_); (· rfl))); first | refine lc hM ?_ | refine ll hM ?_ | refine lp hM ?_) | ((with_reducible refine at_store ?_); first | (refine ls hM ?_; clear hM; intro wx hM) | (refine lw hM ?_; clear hM; intro wx hM) | (refine lt hM ?_; clear hM; intro wx hM)) | ((with_reducible refine at_alloc ?_); refine lz hM ?_; clear hM; intro gx wx hM) | ((with_reducible refine at_box ?_); refine lb hM ?_; clear hM; intro gx wx hM))
    rw [HE.out]
    clear t1 s1 s2 s3 s4 s5 s6 s7
    obtain ⟨g0, rfl⟩ := hM.name1
    have M0 := Lib.hid hM
    clear hM
    go_loopw [46, 4] (fun i b wr => ∃ (k : Nat) (z : Int), k ≤ n ∧ i = .int .i64 (k : Nat) ∧ b = .int .i64 z ∧ Hid (R = chkW q z (ws.drop k)) ∧ Mem [] w [⟨g0, 27, 4, cfgCs r d p A n c⟩] [] wr) (fun i _ _ => n - (intOf i).toNat)
    case atStart => exact ⟨0, 0, by omega, rfl, rfl, HR0, M0.out⟩
    case round =>
      obtain ⟨k, z, hk, rfl, rfl, HC, hM⟩ := hrel
      by_cases hlt : k < n
      · have hkl : k < ws.length := by have := HL.out; omega
        have hst := chkW_step (most := q) (b := z) hkl
        obtain ⟨g, off, rfl, hgl, _⟩ := HW.out.2 (by omega)
        have hcell := (HW.out.keep hM.below).cell k hkl
        obtain ⟨f, hf⟩ : ∃ f, f = ws[k].1 := ⟨_, rfl⟩
        obtain ⟨t, ht⟩ : ∃ t, t = ws[k].2 := ⟨_, rfl⟩
        rw [← hf, ← ht] at hcell hst
        have HX := Lib.hid hcell
        clear hcell hf ht
        have hk0 : (0 : Int) ≤ (k : Int) := Int.natCast_nonneg _
        have hk1 : (k : Int) < (n : Int) := by omega
        by_cases a1 : f < 0
        · have hr : R = 2 := by rw [HC.out, hst, if_pos (.inl a1)]
          have HR := Lib.hid hr
          clear hst hr
          have c1 : decide (f < 0) = true := by simpa using a1
          go_wp2_with (first | ((with_reducible refine at_load ?_); refine lr HX.out ?_) | ((first | with_reducible refine at_load ?_ | ((with_reducible refine at_load_g ?_ ?_); (· rfl))); first | refine lc hM ?_ | refine ll hM ?_ | refine lp hM ?_) | ((with_reducible refine at_store ?_); first | (refine ls hM ?_; clear hM; intro wx hM) | (refine lw hM ?_; clear hM; intro wx hM) | (refine lt hM ?_; clear hM; intro wx hM)) | ((with_reducible refine at_alloc ?_); refine lz hM ?_; clear hM; intro gx wx hM) | ((with_reducible refine at_box ?_); refine lb hM ?_; clear hM; intro gx wx hM))
          go_ret
          exact ⟨ret_i HR.out.symm, hM.below⟩
        · have c1 : decide (f < 0) = false := by simpa using a1
          by_cases a2 : t ≤ f
          · have hr : R = 2 := by rw [HC.out, hst, if_pos (.inr (.inl a2))]
            have HR := Lib.hid hr
            clear hst hr a1
            have c2 : decide (t ≤ f) = true := by simpa using a2
            go_wp2_with (first | ((with_reducible refine at_load ?_); refine lr HX.out ?_) | ((first | with_reducible refine at_load ?_ | ((with_reducible refine at_load_g ?_ ?_); (· rfl))); first | refine lc hM ?_ | refine ll hM ?_ | refine lp hM ?_) | ((with_reducible refine at_store ?_); first | (refine ls hM ?_; clear hM; intro wx hM) | (refine lw hM ?_; clear hM; intro wx hM) | (refine lt hM ?_; clear hM; intro wx hM)) | ((with_reducible refine at_alloc ?_); refine lz hM ?_; clear hM; intro gx wx hM) | ((with_reducible refine at_box ?_); refine lb hM ?_; clear hM; intro gx wx hM))
            go_ret
            exact ⟨ret_i HR.out.symm, hM.below⟩
          · have c2 : decide (t ≤ f) = false := by simp; omega
            by_cases a3 : q < t
            · have hr : R = 2 := by rw [HC.out, hst, if_pos (.inr (.inr a3))]
              have HR := Lib.hid hr
              clear hst hr a1 a2
              have c3 : decide (q < t) = true := by simpa using a3
              go_wp2_with (first | ((with_reducible refine at_load ?_); refine lr HX.out ?_) | ((first | with_reducible refine at_load ?_ | ((with_reducible refine at_load_g ?_ ?_); (· rfl))); first | refine lc hM ?_ | refine ll hM ?_ | refine lp hM ?_) | ((with_reducible refine at_store ?_); first | (refine ls hM ?_; clear hM; intro wx hM) | (refine lw hM ?_; clear hM; intro wx hM) | (refine lt hM ?_; clear hM; intro wx hM)) | ((with_reducible refine at_alloc ?_); refine lz hM ?_; clear hM; intro gx wx hM) | ((with_reducible refine at_box ?_); refine lb hM ?_; clear hM; intro gx wx hM))
              go_ret
              exact ⟨ret_i HR.out.symm, hM.below⟩
            · have c3 : decide (q < t) = false := by simp; omega
              rw [if_neg (by omega)] at hst
              by_cases a4 : f < z
              · have hr : R = 30 := by rw [HC.out, hst, if_pos a4]
                have HR := Lib.hid hr
                clear hst hr a1 a2 a3
                have c4 : decide (f < z) = true := by simpa using a4
                go_wp2_with (first | ((with_reducible refine at_load ?_); refine lr HX.out ?_) | ((first | with_reducible refine at_load ?_ | ((with_reducible refine at_load_g ?_ ?_); (· rfl))); first | refine lc hM ?_ | refine ll hM ?_ | refine lp hM ?_) | ((with_reducible refine at_store ?_); first | (refine ls hM ?_; clear hM; intro wx hM) | (refine lw hM ?_; clear hM; intro wx hM) | (refine lt hM ?_; clear hM; intro wx hM)) | ((with_reducible refine at_alloc ?_); refine lz hM ?_; clear hM; intro gx wx hM) | ((with_reducible refine at_box ?_); refine lb hM ?_; clear hM; intro gx wx hM))
                go_ret
                exact ⟨ret_i HR.out.symm, hM.below⟩
              · have hr : R = chkW q t (ws.drop (k + 1)) := by rw [HC.out, hst, if_neg a4]
                have HR := Lib.hid hr
                have c4 : decide (f < z) = false := by simp; omega
                clear hst hr a1 a2 a3 a4
                go_wp2_with (first | ((with_reducible refine at_load ?_); refine lr HX.out ?_) | ((first | with_reducible refine at_load ?_ | ((with_reducible refine at_load_g ?_ ?_); (· rfl))); first | refine lc hM ?_ | refine ll hM ?_ | refine lp hM ?_) | ((with_reducible refine at_store ?_); first | (refine ls hM ?_; clear hM; intro wx hM) | (refine lw hM ?_; clear hM; intro wx hM) | (refine lt hM ?_; clear hM; intro wx hM)) | ((with_reducible refine at_alloc ?_); refine lz hM ?_; clear hM; intro gx wx hM) | ((with_reducible refine at_box ?_); refine lb hM ?_; clear hM; intro gx wx hM))
                exact ⟨⟨k + 1, t, by omega, by go_num, rfl, HR, ((hM.subL (by repeat (first | exact List.Sublist.refl _ | exact List.nil_sublist _ | apply List.Sublist.cons_cons | apply List.Sublist.cons))).subR (by repeat (first | exact List.Sublist.refl _ | exact List.nil_sublist _ | apply List.Sublist.cons_cons | apply List.Sublist.cons)))⟩, by simp [intOf]; omega⟩
      · obtain rfl : k = n := by omega
        have hr : R = 0 := by rw [HC.out, List.drop_of_length_le (by have := HL.out; omega)]; rfl
        have HR := Lib.hid hr
        clear hr
        go_wp2_with (first | ((first | with_reducible refine at_load ?_ | ((with_reducible refine at_load_g ?_ ?_); (· rfl))); first | refine lc hM ?_ | refine ll hM ?_ | refine lp hM ?_) | ((with_reducible refine at_store ?_); first | (refine ls hM ?_; clear hM; intro wx hM) | (refine lw hM ?_; clear hM; intro wx hM) | (refine lt hM ?_; clear hM; intro wx hM)) | ((with_reducible refine at_alloc ?_); refine lz hM ?_; clear hM; intro gx wx hM) | ((with_reducible refine at_box ?_); refine lb hM ?_; clear hM; intro gx wx hM))
        go_ret
        exact ⟨ret_i HR.out.symm, hM.below⟩
set_option maxRecDepth 20000 in
set_option maxHeartbeats 4000000 in
theorem check_any (r d p : Int) (A : Option Addr) (n c : Nat) (ws : List Win) (w : World) (hn : n ≤ 1000) (hW : Wins w A n ws) :
    Calls Try.prog 23 #[cfgV r d p A n c] w fun e w' => e = .returned (.int .i64 (chk r d p ws)) ∧ Below w.heap.size w w' := by
  have hl := hW.len
  rcases (show r < 1 ∨ 1 ≤ r by omega) with h1 | h1
  · have s1 : decide (r < 1) = true := by simpa using h1
    have hbad : badC r d p := by unfold badC; omega
    have e : chk r d p ws = 2 := by unfold chk; rw [if_pos hbad]
    rw [e]
    clear e hbad
    have hM := Mem.start [] w
    go_enter Try.func23, Try.ntmps23
    go_wp2_with (first | ((first | with_reducible refine at_load ?_ | ((with_reducible refine at_load_g ?_ ?_); (· rfl))); first | refine lc hM ?_ | refine ll hM ?_ | refine lp hM ?_) | ((with_reducible refine at_store ?_); first | (refine ls hM ?_; clear hM; intro wx hM) | (refine lw hM ?_; clear hM; intro wx hM) | (refine lt hM ?_; clear hM; intro wx hM)) | ((with_reducible refine at_alloc ?_); refine lz hM ?_; clear hM; intro gx wx hM) | ((with_reducible refine at_box ?_); refine lb hM ?_; clear hM; intro gx wx hM))
    go_ret
    exact ⟨rfl, hM.below⟩
  have s1 : decide (r < 1) = false := by simpa using h1
  rcases (show 1048576 < r ∨ r ≤ 1048576 by omega) with h2 | h2
  · have s2 : decide (1048576 < r) = true := by simpa using h2
    have hbad : badC r d p := by unfold badC; omega
    have e : chk r d p ws = 2 := by unfold chk; rw [if_pos hbad]
    rw [e]
    clear e hbad
    have hM := Mem.start [] w
    go_enter Try.func23, Try.ntmps23
    go_wp2_with (first | ((first | with_reducible refine at_load ?_ | ((with_reducible refine at_load_g ?_ ?_); (· rfl))); first | refine lc hM ?_ | refine ll hM ?_ | refine lp hM ?_) | ((with_reducible refine at_store ?_); first | (refine ls hM ?_; clear hM; intro wx hM) | (refine lw hM ?_; clear hM; intro wx hM) | (refine lt hM ?_; clear hM; intro wx hM)) | ((with_reducible refine at_alloc ?_); refine lz hM ?_; clear hM; intro gx wx hM) | ((with_reducible refine at_box ?_); refine lb hM ?_; clear hM; intro gx wx hM))
    go_ret
    exact ⟨rfl, hM.below⟩
  have s2 : decide (1048576 < r) = false := by simpa using h2
  rcases (show d < 0 ∨ 0 ≤ d by omega) with h3 | h3
  · have s3 : decide (d < 0) = true := by simpa using h3
    have hbad : badC r d p := by unfold badC; omega
    have e : chk r d p ws = 2 := by unfold chk; rw [if_pos hbad]
    rw [e]
    clear e hbad
    have hM := Mem.start [] w
    go_enter Try.func23, Try.ntmps23
    go_wp2_with (first | ((first | with_reducible refine at_load ?_ | ((with_reducible refine at_load_g ?_ ?_); (· rfl))); first | refine lc hM ?_ | refine ll hM ?_ | refine lp hM ?_) | ((with_reducible refine at_store ?_); first | (refine ls hM ?_; clear hM; intro wx hM) | (refine lw hM ?_; clear hM; intro wx hM) | (refine lt hM ?_; clear hM; intro wx hM)) | ((with_reducible refine at_alloc ?_); refine lz hM ?_; clear hM; intro gx wx hM) | ((with_reducible refine at_box ?_); refine lb hM ?_; clear hM; intro gx wx hM))
    go_ret
    exact ⟨rfl, hM.below⟩
  have s3 : decide (d < 0) = false := by simpa using h3
  rcases (show 1440 < d ∨ d ≤ 1440 by omega) with h4 | h4
  · have s4 : decide (1440 < d) = true := by simpa using h4
    have hbad : badC r d p := by unfold badC; omega
    have e : chk r d p ws = 2 := by unfold chk; rw [if_pos hbad]
    rw [e]
    clear e hbad
    have hM := Mem.start [] w
    go_enter Try.func23, Try.ntmps23
    go_wp2_with (first | ((first | with_reducible refine at_load ?_ | ((with_reducible refine at_load_g ?_ ?_); (· rfl))); first | refine lc hM ?_ | refine ll hM ?_ | refine lp hM ?_) | ((with_reducible refine at_store ?_); first | (refine ls hM ?_; clear hM; intro wx hM) | (refine lw hM ?_; clear hM; intro wx hM) | (refine lt hM ?_; clear hM; intro wx hM)) | ((with_reducible refine at_alloc ?_); refine lz hM ?_; clear hM; intro gx wx hM) | ((with_reducible refine at_box ?_); refine lb hM ?_; clear hM; intro gx wx hM))
    go_ret
    exact ⟨rfl, hM.below⟩
  have s4 : decide (1440 < d) = false := by simpa using h4
  rcases (show p < 0 ∨ 0 ≤ p by omega) with h5 | h5
  · have s5 : decide (p < 0) = true := by simpa using h5
    have hbad : badC r d p := by unfold badC; omega
    have e : chk r d p ws = 2 := by unfold chk; rw [if_pos hbad]
    rw [e]
    clear e hbad
    have hM := Mem.start [] w
    go_enter Try.func23, Try.ntmps23
    go_wp2_with (first | ((first | with_reducible refine at_load ?_ | ((with_reducible refine at_load_g ?_ ?_); (· rfl))); first | refine lc hM ?_ | refine ll hM ?_ | refine lp hM ?_) | ((with_reducible refine at_store ?_); first | (refine ls hM ?_; clear hM; intro wx hM) | (refine lw hM ?_; clear hM; intro wx hM) | (refine lt hM ?_; clear hM; intro wx hM)) | ((with_reducible refine at_alloc ?_); refine lz hM ?_; clear hM; intro gx wx hM) | ((with_reducible refine at_box ?_); refine lb hM ?_; clear hM; intro gx wx hM))
    go_ret
    exact ⟨rfl, hM.below⟩
  have s5 : decide (p < 0) = false := by simpa using h5
  rcases (show 10000000 < p ∨ p ≤ 10000000 by omega) with h6 | h6
  · have s6 : decide (10000000 < p) = true := by simpa using h6
    have hbad : badC r d p := by unfold badC; omega
    have e : chk r d p ws = 2 := by unfold chk; rw [if_pos hbad]
    rw [e]
    clear e hbad
    have hM := Mem.start [] w
    go_enter Try.func23, Try.ntmps23
    go_wp2_with (first | ((first | with_reducible refine at_load ?_ | ((with_reducible refine at_load_g ?_ ?_); (· rfl))); first | refine lc hM ?_ | refine ll hM ?_ | refine lp hM ?_) | ((with_reducible refine at_store ?_); first | (refine ls hM ?_; clear hM; intro wx hM) | (refine lw hM ?_; clear hM; intro wx hM) | (refine lt hM ?_; clear hM; intro wx hM)) | ((with_reducible refine at_alloc ?_); refine lz hM ?_; clear hM; intro gx wx hM) | ((with_reducible refine at_box ?_); refine lb hM ?_; clear hM; intro gx wx hM))
    go_ret
    exact ⟨rfl, hM.below⟩
  have s6 : decide (10000000 < p) = false := by simpa using h6
  have hgood : ¬ badC r d p := by unfold badC; omega
  by_cases h7 : 32 < n
  · have s7 : decide ((32 : Int) < (n : Int)) = true := by simp; omega
    have e : chk r d p ws = 9 := by unfold chk; rw [if_neg hgood, if_pos (by omega)]
    rw [e]
    clear e hgood
    have hM := Mem.start [] w
    go_enter Try.func23, Try.ntmps23
    go_wp2_with (first | ((first | with_reducible refine at_load ?_ | ((with_reducible refine at_load_g ?_ ?_); (· rfl))); first | refine lc hM ?_ | refine ll hM ?_ | refine lp hM ?_) | ((with_reducible refine at_store ?_); first | (refine ls hM ?_; clear hM; intro wx hM) | (refine lw hM ?_; clear hM; intro wx hM) | (refine lt hM ?_; clear hM; intro wx hM)) | ((with_reducible refine at_alloc ?_); refine lz hM ?_; clear hM; intro gx wx hM) | ((with_reducible refine at_box ?_); refine lb hM ?_; clear hM; intro gx wx hM))
    go_ret
    exact ⟨rfl, hM.below⟩
  · have e : chk r d p ws = chkW (mostOf p) 0 ws := by unfold chk; rw [if_neg hgood, if_neg (by omega)]
    rw [e]
    exact check_loop r d p A n c ws w (by omega) hW h1 h2 h3 h4 h5 h6
end Go.Proofs.Ytenflgbaibjeoaa
