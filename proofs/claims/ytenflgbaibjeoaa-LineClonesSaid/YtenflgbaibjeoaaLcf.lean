/- Contract of the reference's Connected. -/
import Derived.Test.YtenflgbaibjeoaaLce
namespace Go.Proofs.Ytenflgbaibjeoaa
open Go Go.RowKit Go.Bul Go.Thg Go.Lin
set_option maxRecDepth 20000 in
set_option maxHeartbeats 4000000 in
theorem rconn_any (r d p m : Int) (A : Option Addr) (n c : Nat) (ws : List Win) (w : World) (hm2 : m ≤ 9223372036854775807) (hn : n ≤ 1000) (hW : Wins w A n ws) :
    Calls Try.prog 25 #[cfgV r d p A n c, .int .i64 m] w fun e w' => e = .returned (.bool (connected r d p ws m)) ∧ Below w.heap.size w w' := by
  have hM := Mem.start [] w
  have HW := Lib.hid hW
  have HL := Lib.hid hW.len
  have HC := Lib.hid (fun w (h : Wins w A n ws) => rcheck_any r d p A n c ws w hn h)
  by_cases hc : chk r d p ws = 0
  · have c2 : (chk r d p ws != 0) = false := by simp [hc]
    by_cases hm : 0 ≤ m
    · have c1 : decide (m < 0) = false := by simpa using hm
      have e : connected r d p ws m = con (phase p m) ws := by simp [connected, hc, hm]
      obtain ⟨hb, hl32, hp, _⟩ := chk_parts hc
      have hp2 : p ≤ 10000000 := by unfold badC at hb; omega
      have hn32 : n ≤ 32 := by have := HL.out; omega
      rw [e]
      obtain ⟨q0, q1⟩ := phase_range hp hm
      obtain ⟨R, hR⟩ : ∃ R, R = con (phase p m) ws := ⟨_, rfl⟩
      rw [← hR]
      have HR0 := Lib.hid hR
      rw [hc] at HC
      by_cases hp0 : 0 < p
      · have c3 : decide (0 < p) = true := by simpa using hp0
        have c4 : (p == 0) = false := by simp; omega
        have hq : phase p m = m % p := by unfold phase; rw [if_neg (by omega)]
        rw [hq] at HR0 q0 q1
        clear hW e hb hp hc hR c2 hq
        go_enter Try.func25, Try.ntmps25
        go_wp2_with (first | ((first | with_reducible refine at_load ?_ | ((with_reducible refine at_load_g ?_ ?_); (· rfl))); first | refine lc hM ?_ | refine ll hM ?_ | refine lp hM ?_) | ((with_reducible refine at_store ?_); first | (refine ls hM ?_; clear hM; intro wx hM) | (refine lw hM ?_; clear hM; intro wx hM) | (refine lt hM ?_; clear hM; intro wx hM)) | ((with_reducible refine at_alloc ?_); refine lz hM ?_; clear hM; intro gx wx hM) | ((with_reducible refine at_box ?_); refine lb hM ?_; clear hM; intro gx wx hM) | ((with_reducible refine (HC.out _ (HW.out.keep hM.below)).mono ?_); rintro e w1 ⟨rfl, hb1⟩; replace hM := hM.step hb1; clear hb1))
        generalize m % p = q at HR0 q0 q1 ⊢
        obtain ⟨g0, rfl⟩ := hM.name1
        have M0 := Lib.hid hM
        clear hM HC
        go_loopw [5] (fun i wr => ∃ k : Nat, k ≤ n ∧ i = .int .i64 (k : Nat) ∧ Hid (R = con q (ws.drop k)) ∧ Mem [] w [⟨g0, 42, 4, cfgCs r d p A n c⟩] [] wr) (fun i _ => n - (intOf i).toNat)
        case atStart => exact ⟨0, by omega, rfl, HR0, M0.out⟩
        case round =>
          obtain ⟨k, hk, rfl, HC, hM⟩ := hrel
          by_cases hlt : k < n
          · have hkl : k < ws.length := by have := HL.out; omega
            have hst := con_step (m := q) hkl
            obtain ⟨g, off, rfl, hgl, _⟩ := HW.out.2 (by omega)
            have hc0 := fun w' (hb : Below w.heap.size w w') => (HW.out.keep hb).c0 k hkl
            have hc1 := fun w' (hb : Below w.heap.size w w') => (HW.out.keep hb).c1 k hkl
            obtain ⟨f, hf⟩ : ∃ f, f = ws[k].1 := ⟨_, rfl⟩
            obtain ⟨t, ht⟩ : ∃ t, t = ws[k].2 := ⟨_, rfl⟩
            rw [← hf] at hc0 hst
            rw [← ht] at hc1 hst
            have HX0 := Lib.hid hc0
            have HX1 := Lib.hid hc1
            clear hc0 hc1 hf ht
            have hk0 : (0 : Int) ≤ (k : Int) := Int.natCast_nonneg _
            have hk1 : (k : Int) < (n : Int) := by omega
            by_cases a1 : f ≤ q
            · have c1 : decide (f ≤ q) = true := by simpa using a1
              by_cases a2 : q < t
              · have c2 : decide (q < t) = true := by simpa using a2
                have hr : R = true := by rw [HC.out, hst, c1, c2]; rfl
                have HR := Lib.hid hr
                clear hst hr a1 a2
                go_wp2_with (first | ((first | with_reducible refine at_load ?_ | ((with_reducible refine at_load_g ?_ ?_); (· rfl))); first | refine lo (HX0.out _ hM.below) ?_ | refine lo (HX1.out _ hM.below) ?_) | ((first | with_reducible refine at_load ?_ | ((with_reducible refine at_load_g ?_ ?_); (· rfl))); first | refine lc hM ?_ | refine ll hM ?_ | refine lp hM ?_) | ((with_reducible refine at_store ?_); first | (refine ls hM ?_; clear hM; intro wx hM) | (refine lw hM ?_; clear hM; intro wx hM) | (refine lt hM ?_; clear hM; intro wx hM)) | ((with_reducible refine at_alloc ?_); refine lz hM ?_; clear hM; intro gx wx hM) | ((with_reducible refine at_box ?_); refine lb hM ?_; clear hM; intro gx wx hM))
                go_ret
                exact ⟨ret_b HR.out.symm, hM.below⟩
              · have c2 : decide (q < t) = false := by simpa using a2
                have hr : R = con q (ws.drop (k + 1)) := by rw [HC.out, hst, c1, c2]; rfl
                have HR := Lib.hid hr
                clear hst hr a1 a2
                go_wp2_with (first | ((first | with_reducible refine at_load ?_ | ((with_reducible refine at_load_g ?_ ?_); (· rfl))); first | refine lo (HX0.out _ hM.below) ?_ | refine lo (HX1.out _ hM.below) ?_) | ((first | with_reducible refine at_load ?_ | ((with_reducible refine at_load_g ?_ ?_); (· rfl))); first | refine lc hM ?_ | refine ll hM ?_ | refine lp hM ?_) | ((with_reducible refine at_store ?_); first | (refine ls hM ?_; clear hM; intro wx hM) | (refine lw hM ?_; clear hM; intro wx hM) | (refine lt hM ?_; clear hM; intro wx hM)) | ((with_reducible refine at_alloc ?_); refine lz hM ?_; clear hM; intro gx wx hM) | ((with_reducible refine at_box ?_); refine lb hM ?_; clear hM; intro gx wx hM))
                exact ⟨⟨k + 1, by omega, by go_num, HR, ((hM.subL (by repeat (first | exact List.Sublist.refl _ | exact List.nil_sublist _ | apply List.Sublist.cons_cons | apply List.Sublist.cons))).subR (by repeat (first | exact List.Sublist.refl _ | exact List.nil_sublist _ | apply List.Sublist.cons_cons | apply List.Sublist.cons)))⟩, by simp [intOf]; omega⟩
            · have c1 : decide (f ≤ q) = false := by simpa using a1
              have hr : R = con q (ws.drop (k + 1)) := by rw [HC.out, hst, c1]; rfl
              have HR := Lib.hid hr
              clear hst hr a1
              go_wp2_with (first | ((first | with_reducible refine at_load ?_ | ((with_reducible refine at_load_g ?_ ?_); (· rfl))); first | refine lo (HX0.out _ hM.below) ?_ | refine lo (HX1.out _ hM.below) ?_) | ((first | with_reducible refine at_load ?_ | ((with_reducible refine at_load_g ?_ ?_); (· rfl))); first | refine lc hM ?_ | refine ll hM ?_ | refine lp hM ?_) | ((with_reducible refine at_store ?_); first | (refine ls hM ?_; clear hM; intro wx hM) | (refine lw hM ?_; clear hM; intro wx hM) | (refine lt hM ?_; clear hM; intro wx hM)) | ((with_reducible refine at_alloc ?_); refine lz hM ?_; clear hM; intro gx wx hM) | ((with_reducible refine at_box ?_); refine lb hM ?_; clear hM; intro gx wx hM))
              exact ⟨⟨k + 1, by omega, by go_num, HR, ((hM.subL (by repeat (first | exact List.Sublist.refl _ | exact List.nil_sublist _ | apply List.Sublist.cons_cons | apply List.Sublist.cons))).subR (by repeat (first | exact List.Sublist.refl _ | exact List.nil_sublist _ | apply List.Sublist.cons_cons | apply List.Sublist.cons)))⟩, by simp [intOf]; omega⟩
          · obtain rfl : k = n := by omega
            have hr : R = false := by rw [HC.out, List.drop_of_length_le (by have := HL.out; omega)]; rfl
            have HR := Lib.hid hr
            clear hr
            go_wp2_with (first | ((first | with_reducible refine at_load ?_ | ((with_reducible refine at_load_g ?_ ?_); (· rfl))); first | refine lc hM ?_ | refine ll hM ?_ | refine lp hM ?_) | ((with_reducible refine at_store ?_); first | (refine ls hM ?_; clear hM; intro wx hM) | (refine lw hM ?_; clear hM; intro wx hM) | (refine lt hM ?_; clear hM; intro wx hM)) | ((with_reducible refine at_alloc ?_); refine lz hM ?_; clear hM; intro gx wx hM) | ((with_reducible refine at_box ?_); refine lb hM ?_; clear hM; intro gx wx hM))
            go_ret
            exact ⟨ret_b HR.out.symm, hM.below⟩
      · have c3 : decide (0 < p) = false := by simpa using hp0
        have hq : phase p m = m := by unfold phase; rw [if_pos (by omega)]
        rw [hq] at HR0 q0 q1
        clear hW e hb hp hc hR c2 hq
        obtain ⟨q, rfl⟩ : ∃ q, q = m := ⟨_, rfl⟩
        go_enter Try.func25, Try.ntmps25
        go_wp2_with (first | ((first | with_reducible refine at_load ?_ | ((with_reducible refine at_load_g ?_ ?_); (· rfl))); first | refine lc hM ?_ | refine ll hM ?_ | refine lp hM ?_) | ((with_reducible refine at_store ?_); first | (refine ls hM ?_; clear hM; intro wx hM) | (refine lw hM ?_; clear hM; intro wx hM) | (refine lt hM ?_; clear hM; intro wx hM)) | ((with_reducible refine at_alloc ?_); refine lz hM ?_; clear hM; intro gx wx hM) | ((with_reducible refine at_box ?_); refine lb hM ?_; clear hM; intro gx wx hM) | ((with_reducible refine (HC.out _ (HW.out.keep hM.below)).mono ?_); rintro e w1 ⟨rfl, hb1⟩; replace hM := hM.step hb1; clear hb1))
        obtain ⟨g0, rfl⟩ := hM.name1
        have M0 := Lib.hid hM
        clear hM HC
        go_loopw [5] (fun i wr => ∃ k : Nat, k ≤ n ∧ i = .int .i64 (k : Nat) ∧ Hid (R = con q (ws.drop k)) ∧ Mem [] w [⟨g0, 42, 4, cfgCs r d p A n c⟩] [] wr) (fun i _ => n - (intOf i).toNat)
        case atStart => exact ⟨0, by omega, rfl, HR0, M0.out⟩
        case round =>
          obtain ⟨k, hk, rfl, HC, hM⟩ := hrel
          by_cases hlt : k < n
          · have hkl : k < ws.length := by have := HL.out; omega
            have hst := con_step (m := q) hkl
            obtain ⟨g, off, rfl, hgl, _⟩ := HW.out.2 (by omega)
            have hc0 := fun w' (hb : Below w.heap.size w w') => (HW.out.keep hb).c0 k hkl
            have hc1 := fun w' (hb : Below w.heap.size w w') => (HW.out.keep hb).c1 k hkl
            obtain ⟨f, hf⟩ : ∃ f, f = ws[k].1 := ⟨_, rfl⟩
            obtain ⟨t, ht⟩ : ∃ t, t = ws[k].2 := ⟨_, rfl⟩
            rw [← hf] at hc0 hst
            rw [← ht] at hc1 hst
            have HX0 := Lib.hid hc0
            have HX1 := Lib.hid hc1
            clear hc0 hc1 hf ht
            have hk0 : (0 : Int) ≤ (k : Int) := Int.natCast_nonneg _
            have hk1 : (k : Int) < (n : Int) := by omega
            by_cases a1 : f ≤ q
            · have c1 : decide (f ≤ q) = true := by simpa using a1
              by_cases a2 : q < t
              · have c2 : decide (q < t) = true := by simpa using a2
                have hr : R = true := by rw [HC.out, hst, c1, c2]; rfl
                have HR := Lib.hid hr
                clear hst hr a1 a2
                go_wp2_with (first | ((first | with_reducible refine at_load ?_ | ((with_reducible refine at_load_g ?_ ?_); (· rfl))); first | refine lo (HX0.out _ hM.below) ?_ | refine lo (HX1.out _ hM.below) ?_) | ((first | with_reducible refine at_load ?_ | ((with_reducible refine at_load_g ?_ ?_); (· rfl))); first | refine lc hM ?_ | refine ll hM ?_ | refine lp hM ?_) | ((with_reducible refine at_store ?_); first | (refine ls hM ?_; clear hM; intro wx hM) | (refine lw hM ?_; clear hM; intro wx hM) | (refine lt hM ?_; clear hM; intro wx hM)) | ((with_reducible refine at_alloc ?_); refine lz hM ?_; clear hM; intro gx wx hM) | ((with_reducible refine at_box ?_); refine lb hM ?_; clear hM; intro gx wx hM))
                go_ret
                exact ⟨ret_b HR.out.symm, hM.below⟩
              · have c2 : decide (q < t) = false := by simpa using a2
                have hr : R = con q (ws.drop (k + 1)) := by rw [HC.out, hst, c1, c2]; rfl
                have HR := Lib.hid hr
                clear hst hr a1 a2
                go_wp2_with (first | ((first | with_reducible refine at_load ?_ | ((with_reducible refine at_load_g ?_ ?_); (· rfl))); first | refine lo (HX0.out _ hM.below) ?_ | refine lo (HX1.out _ hM.below) ?_) | ((first | with_reducible refine at_load ?_ | ((with_reducible refine at_load_g ?_ ?_); (· rfl))); first | refine lc hM ?_ | refine ll hM ?_ | refine lp hM ?_) | ((with_reducible refine at_store ?_); first | (refine ls hM ?_; clear hM; intro wx hM) | (refine lw hM ?_; clear hM; intro wx hM) | (refine lt hM ?_; clear hM; intro wx hM)) | ((with_reducible refine at_alloc ?_); refine lz hM ?_; clear hM; intro gx wx hM) | ((with_reducible refine at_box ?_); refine lb hM ?_; clear hM; intro gx wx hM))
                exact ⟨⟨k + 1, by omega, by go_num, HR, ((hM.subL (by repeat (first | exact List.Sublist.refl _ | exact List.nil_sublist _ | apply List.Sublist.cons_cons | apply List.Sublist.cons))).subR (by repeat (first | exact List.Sublist.refl _ | exact List.nil_sublist _ | apply List.Sublist.cons_cons | apply List.Sublist.cons)))⟩, by simp [intOf]; omega⟩
            · have c1 : decide (f ≤ q) = false := by simpa using a1
              have hr : R = con q (ws.drop (k + 1)) := by rw [HC.out, hst, c1]; rfl
              have HR := Lib.hid hr
              clear hst hr a1
              go_wp2_with (first | ((first | with_reducible refine at_load ?_ | ((with_reducible refine at_load_g ?_ ?_); (· rfl))); first | refine lo (HX0.out _ hM.below) ?_ | refine lo (HX1.out _ hM.below) ?_) | ((first | with_reducible refine at_load ?_ | ((with_reducible refine at_load_g ?_ ?_); (· rfl))); first | refine lc hM ?_ | refine ll hM ?_ | refine lp hM ?_) | ((with_reducible refine at_store ?_); first | (refine ls hM ?_; clear hM; intro wx hM) | (refine lw hM ?_; clear hM; intro wx hM) | (refine lt hM ?_; clear hM; intro wx hM)) | ((with_reducible refine at_alloc ?_); refine lz hM ?_; clear hM; intro gx wx hM) | ((with_reducible refine at_box ?_); refine lb hM ?_; clear hM; intro gx wx hM))
              exact ⟨⟨k + 1, by omega, by go_num, HR, ((hM.subL (by repeat (first | exact List.Sublist.refl _ | exact List.nil_sublist _ | apply List.Sublist.cons_cons | apply List.Sublist.cons))).subR (by repeat (first | exact List.Sublist.refl _ | exact List.nil_sublist _ | apply List.Sublist.cons_cons | apply List.Sublist.cons)))⟩, by simp [intOf]; omega⟩
          · obtain rfl : k = n := by omega
            have hr : R = false := by rw [HC.out, List.drop_of_length_le (by have := HL.out; omega)]; rfl
            have HR := Lib.hid hr
            clear hr
            go_wp2_with (first | ((first | with_reducible refine at_load ?_ | ((with_reducible refine at_load_g ?_ ?_); (· rfl))); first | refine lc hM ?_ | refine ll hM ?_ | refine lp hM ?_) | ((with_reducible refine at_store ?_); first | (refine ls hM ?_; clear hM; intro wx hM) | (refine lw hM ?_; clear hM; intro wx hM) | (refine lt hM ?_; clear hM; intro wx hM)) | ((with_reducible refine at_alloc ?_); refine lz hM ?_; clear hM; intro gx wx hM) | ((with_reducible refine at_box ?_); refine lb hM ?_; clear hM; intro gx wx hM))
            go_ret
            exact ⟨ret_b HR.out.symm, hM.below⟩
    · have c1 : decide (m < 0) = true := by simp; omega
      have e : connected r d p ws m = false := by simp [connected]; omega
      rw [e]
      rw [hc] at HC
      clear hW e hc c2 hm
      go_enter Try.func25, Try.ntmps25
      go_wp2_with (first | ((first | with_reducible refine at_load ?_ | ((with_reducible refine at_load_g ?_ ?_); (· rfl))); first | refine lc hM ?_ | refine ll hM ?_ | refine lp hM ?_) | ((with_reducible refine at_store ?_); first | (refine ls hM ?_; clear hM; intro wx hM) | (refine lw hM ?_; clear hM; intro wx hM) | (refine lt hM ?_; clear hM; intro wx hM)) | ((with_reducible refine at_alloc ?_); refine lz hM ?_; clear hM; intro gx wx hM) | ((with_reducible refine at_box ?_); refine lb hM ?_; clear hM; intro gx wx hM) | ((with_reducible refine (HC.out _ (HW.out.keep hM.below)).mono ?_); rintro e w1 ⟨rfl, hb1⟩; replace hM := hM.step hb1; clear hb1))
      go_ret
      exact ⟨rfl, hM.below⟩
  · have c2 : (chk r d p ws != 0) = true := by simpa using hc
    have e : connected r d p ws m = false := by simp [connected, hc]
    rw [e]
    clear hW e hc
    generalize chk r d p ws = X at HC c2
    go_enter Try.func25, Try.ntmps25
    go_wp2_with (first | ((first | with_reducible refine at_load ?_ | ((with_reducible refine at_load_g ?_ ?_); (· rfl))); first | refine lc hM ?_ | refine ll hM ?_ | refine lp hM ?_) | ((with_reducible refine at_store ?_); first | (refine ls hM ?_; clear hM; intro wx hM) | (refine lw hM ?_; clear hM; intro wx hM) | (refine lt hM ?_; clear hM; intro wx hM)) | ((with_reducible refine at_alloc ?_); refine lz hM ?_; clear hM; intro gx wx hM) | ((with_reducible refine at_box ?_); refine lb hM ?_; clear hM; intro gx wx hM) | ((with_reducible refine (HC.out _ (HW.out.keep hM.below)).mono ?_); rintro e w1 ⟨rfl, hb1⟩; replace hM := hM.step hb1; clear hb1))
    go_ret
    exact ⟨rfl, hM.below⟩
end Go.Proofs.Ytenflgbaibjeoaa
