/- Contracts of Send and Receive. -/
import Derived.Test.YtenflgbaibjeoaaLng
namespace Go.Lin
/-- What Send does; its error. -/
def sendE (S : Ln) (s : Int) (n : Nat) : Int := if s ≠ 0 ∧ s ≠ 1 then 2 else if S.up = false then 26 else if 1048576 < (if s = 0 then S.e0.wait.length else S.e1.wait.length) + n then 9 else 0
def sendS (S : Ln) (s : Int) (t : List Nat) : Ln := if sendE S s t.length = 0 then (if s = 0 then { S with e0 := { S.e0 with wait := S.e0.wait ++ t } } else { S with e1 := { S.e1 with wait := S.e1.wait ++ t } }) else S
end Go.Lin
namespace Go.Proofs.Ytenflgbaibjeoaa
open Go Go.RowKit Go.Bul Go.Thg Go.Lin
section
variable {G : List Nat} {w0 w : World} {L : List Ent} {R : List Thing} {p : Nat} {S : Ln}
set_option maxRecDepth 20000 in
theorem send_0 (t : ByteArray) (h : HasLine G w0 L R p S w) (hup : S.up = true) (hlen : S.e0.wait.length + t.size ≤ 1048576) :
    Calls Try.prog 16 #[.pointer (some ⟨p, 0, none⟩), .int .i64 0, .string t] w fun e w' => e = .returned (.int .i64 0) ∧ HasLine G w0 L R p { S with e0 := { S.e0 with wait := S.e0.wait ++ nums t } } w' := by
  obtain ⟨x, hM⟩ := h.open
  have HS := Lib.hid side_0
  obtain ⟨r, d, q, ws, now, up, ses, E, E1⟩ := S
  simp only at hup hlen hM ⊢
  subst hup
  have hle : E.wait.length + (nums t).length ≤ 1000000000 := by rw [nums_length]; omega
  have c1 : decide ((1048576 : Int) < (E.wait.length : Int) + (t.size : Int)) = false := by simp; omega
  have hn0 : (0 : Int) ≤ (E.wait.length : Int) := by omega
  have hn1 : (E.wait.length : Int) ≤ 1048576 := by omega
  have ht0 : (0 : Int) ≤ (t.size : Int) := by omega
  have ht1 : (t.size : Int) ≤ 1048576 := by omega
  clear h
  go_enter Try.func16, Try.ntmps16
  go_wp2_with (first | ((with_reducible refine (HS.out _).mono ?_); rintro e w2 ⟨rfl, rfl⟩) | ((first | with_reducible refine at_load ?_ | ((with_reducible refine at_load_g ?_ ?_); (· rfl))); first | refine lc hM ?_ | refine ll hM ?_ | refine lp hM ?_) | ((with_reducible refine at_store ?_); first | (refine ls hM ?_; clear hM; intro wx hM) | (refine lw hM ?_; clear hM; intro wx hM) | (refine lt hM ?_; clear hM; intro wx hM)) | ((with_reducible refine at_alloc ?_); refine lz hM ?_; clear hM; intro gx wx hM) | ((with_reducible refine at_box ?_); refine lb hM ?_; clear hM; intro gx wx hM))
  replace hM := hM.drew
  refine wp_region_all (by kernel_rfl) ?_
  refine wpAll_takes [0, 1, 2, 3, 4, 5, 6, 7, 9, 11, 12] (by kernel_rfl) (fun _ _ _ _ _ h => h) (by kernel_rfl) ?_
  simp only [pickOps, List.filterMap_cons, List.filterMap_nil, List.getElem?_cons_zero, List.getElem?_cons_succ]
  repeat ((with_reducible apply wpPure_step); (· rfl); (· (intro w; go_simp; rfl)); intro K hK; go_simp; (with_reducible refine hK _ ?_); clear hK K)
  refine wpPure_nil ?_
  refine wpAll_seq [8, 10, 13, 14, 15] (by kernel_rfl) ?_
  simp only [pickOps, List.filterMap_cons, List.filterMap_nil, List.getElem?_cons_zero, List.getElem?_cons_succ]
  repeat (first | ((first | ((first | with_reducible refine at_load ?_ | ((with_reducible refine at_load_g ?_ ?_); (· rfl))); first | refine lc hM ?_ | refine ll hM ?_ | refine lp hM ?_) | ((with_reducible refine at_store ?_); first | (refine ls hM ?_; clear hM; intro wx hM) | (refine lw hM ?_; clear hM; intro wx hM) | (refine lt hM ?_; clear hM; intro wx hM)) | ((with_reducible refine at_alloc ?_); refine lz hM ?_; clear hM; intro gx wx hM) | ((with_reducible refine at_box ?_); refine lb hM ?_; clear hM; intro gx wx hM) | ((with_reducible refine at_append ?_); refine la (bytes_src t _) hM hle ?_; clear hM; intro A' N c' wx hN hM)); go_simp) | ((with_reducible apply wpList_pure); (· rfl); (· (go_simp; rfl)); go_simp))
  refine wpList_end ?_
  go_wp2_with (first | ((first | with_reducible refine at_load ?_ | ((with_reducible refine at_load_g ?_ ?_); (· rfl))); first | refine lc hM ?_ | refine ll hM ?_ | refine lp hM ?_) | ((with_reducible refine at_store ?_); first | (refine ls hM ?_; clear hM; intro wx hM) | (refine lw hM ?_; clear hM; intro wx hM) | (refine lt hM ?_; clear hM; intro wx hM)) | ((with_reducible refine at_alloc ?_); refine lz hM ?_; clear hM; intro gx wx hM) | ((with_reducible refine at_box ?_); refine lb hM ?_; clear hM; intro gx wx hM))
  go_ret
  obtain rfl := hN.out
  exact ⟨rfl, HasLine.close (x := { x with w0 := ⟨A', c'⟩ }) hM⟩
set_option maxRecDepth 20000 in
theorem send_1 (t : ByteArray) (h : HasLine G w0 L R p S w) (hup : S.up = true) (hlen : S.e1.wait.length + t.size ≤ 1048576) :
    Calls Try.prog 16 #[.pointer (some ⟨p, 0, none⟩), .int .i64 1, .string t] w fun e w' => e = .returned (.int .i64 0) ∧ HasLine G w0 L R p { S with e1 := { S.e1 with wait := S.e1.wait ++ nums t } } w' := by
  obtain ⟨x, hM⟩ := h.open
  have HS := Lib.hid side_1
  obtain ⟨r, d, q, ws, now, up, ses, E0, E⟩ := S
  simp only at hup hlen hM ⊢
  subst hup
  have hle : E.wait.length + (nums t).length ≤ 1000000000 := by rw [nums_length]; omega
  have c1 : decide ((1048576 : Int) < (E.wait.length : Int) + (t.size : Int)) = false := by simp; omega
  have hn0 : (0 : Int) ≤ (E.wait.length : Int) := by omega
  have hn1 : (E.wait.length : Int) ≤ 1048576 := by omega
  have ht0 : (0 : Int) ≤ (t.size : Int) := by omega
  have ht1 : (t.size : Int) ≤ 1048576 := by omega
  clear h
  go_enter Try.func16, Try.ntmps16
  go_wp2_with (first | ((with_reducible refine (HS.out _).mono ?_); rintro e w2 ⟨rfl, rfl⟩) | ((first | with_reducible refine at_load ?_ | ((with_reducible refine at_load_g ?_ ?_); (· rfl))); first | refine lc hM ?_ | refine ll hM ?_ | refine lp hM ?_) | ((with_reducible refine at_store ?_); first | (refine ls hM ?_; clear hM; intro wx hM) | (refine lw hM ?_; clear hM; intro wx hM) | (refine lt hM ?_; clear hM; intro wx hM)) | ((with_reducible refine at_alloc ?_); refine lz hM ?_; clear hM; intro gx wx hM) | ((with_reducible refine at_box ?_); refine lb hM ?_; clear hM; intro gx wx hM))
  replace hM := hM.drew
  refine wp_region_all (by kernel_rfl) ?_
  refine wpAll_takes [0, 1, 2, 3, 4, 5, 6, 7, 9, 11, 12] (by kernel_rfl) (fun _ _ _ _ _ h => h) (by kernel_rfl) ?_
  simp only [pickOps, List.filterMap_cons, List.filterMap_nil, List.getElem?_cons_zero, List.getElem?_cons_succ]
  repeat ((with_reducible apply wpPure_step); (· rfl); (· (intro w; go_simp; rfl)); intro K hK; go_simp; (with_reducible refine hK _ ?_); clear hK K)
  refine wpPure_nil ?_
  refine wpAll_seq [8, 10, 13, 14, 15] (by kernel_rfl) ?_
  simp only [pickOps, List.filterMap_cons, List.filterMap_nil, List.getElem?_cons_zero, List.getElem?_cons_succ]
  repeat (first | ((first | ((first | with_reducible refine at_load ?_ | ((with_reducible refine at_load_g ?_ ?_); (· rfl))); first | refine lc hM ?_ | refine ll hM ?_ | refine lp hM ?_) | ((with_reducible refine at_store ?_); first | (refine ls hM ?_; clear hM; intro wx hM) | (refine lw hM ?_; clear hM; intro wx hM) | (refine lt hM ?_; clear hM; intro wx hM)) | ((with_reducible refine at_alloc ?_); refine lz hM ?_; clear hM; intro gx wx hM) | ((with_reducible refine at_box ?_); refine lb hM ?_; clear hM; intro gx wx hM) | ((with_reducible refine at_append ?_); refine la (bytes_src t _) hM hle ?_; clear hM; intro A' N c' wx hN hM)); go_simp) | ((with_reducible apply wpList_pure); (· rfl); (· (go_simp; rfl)); go_simp))
  refine wpList_end ?_
  go_wp2_with (first | ((first | with_reducible refine at_load ?_ | ((with_reducible refine at_load_g ?_ ?_); (· rfl))); first | refine lc hM ?_ | refine ll hM ?_ | refine lp hM ?_) | ((with_reducible refine at_store ?_); first | (refine ls hM ?_; clear hM; intro wx hM) | (refine lw hM ?_; clear hM; intro wx hM) | (refine lt hM ?_; clear hM; intro wx hM)) | ((with_reducible refine at_alloc ?_); refine lz hM ?_; clear hM; intro gx wx hM) | ((with_reducible refine at_box ?_); refine lb hM ?_; clear hM; intro gx wx hM))
  go_ret
  obtain rfl := hN.out
  exact ⟨rfl, HasLine.close (x := { x with w1 := ⟨A', c'⟩ }) hM⟩
set_option maxRecDepth 20000 in
/-- The errors. -/
theorem send_no (s : Int) (t : ByteArray) (h : HasLine G w0 L R p S w) (z : Int) (hz : sendE S s t.size = z) (hz0 : z ≠ 0) (hl : S.e0.wait.length ≤ 1000000000 ∧ S.e1.wait.length ≤ 1000000000 ∧ t.size ≤ 1000000000) :
    Calls Try.prog 16 #[.pointer (some ⟨p, 0, none⟩), .int .i64 s, .string t] w fun e w' => e = .returned (.int .i64 z) ∧ w = w' := by
  obtain ⟨x, hM⟩ := h.open
  subst hz
  obtain ⟨r, d, q, ws, now, up, ses, E0, E1⟩ := S
  simp only at hM hl
  obtain ⟨l0, l1, l2⟩ := hl
  have m0 : (0 : Int) ≤ (E0.wait.length : Int) := by omega
  have m1 : (0 : Int) ≤ (E1.wait.length : Int) := by omega
  have m2 : (0 : Int) ≤ (t.size : Int) := by omega
  have m3 : (E0.wait.length : Int) ≤ 1000000000 := by omega
  have m4 : (E1.wait.length : Int) ≤ 1000000000 := by omega
  have m5 : (t.size : Int) ≤ 1000000000 := by omega
  by_cases h0 : s = 0
  · subst h0
    have HS := Lib.hid side_0
    cases up with
    | false =>
      have e : sendE ⟨r, d, q, ws, now, false, ses, E0, E1⟩ 0 t.size = 26 := by simp [sendE]
      rw [e]
      clear h hz0 e
      go_enter Try.func16, Try.ntmps16
      go_wp2_with (first | ((with_reducible refine (HS.out _).mono ?_); rintro e w2 ⟨rfl, rfl⟩) | ((first | with_reducible refine at_load ?_ | ((with_reducible refine at_load_g ?_ ?_); (· rfl))); first | refine lc hM ?_ | refine ll hM ?_ | refine lp hM ?_) | ((with_reducible refine at_store ?_); first | (refine ls hM ?_; clear hM; intro wx hM) | (refine lw hM ?_; clear hM; intro wx hM) | (refine lt hM ?_; clear hM; intro wx hM)) | ((with_reducible refine at_alloc ?_); refine lz hM ?_; clear hM; intro gx wx hM) | ((with_reducible refine at_box ?_); refine lb hM ?_; clear hM; intro gx wx hM))
      go_ret
      exact ⟨rfl, rfl⟩
    | true =>
      by_cases hb : 1048576 < E0.wait.length + t.size
      · have e : sendE ⟨r, d, q, ws, now, true, ses, E0, E1⟩ 0 t.size = 9 := by simp [sendE]; omega
        rw [e]
        have c1 : decide ((1048576 : Int) < (E0.wait.length : Int) + (t.size : Int)) = true := by simp; omega
        clear h hz0 e hb
        go_enter Try.func16, Try.ntmps16
        go_wp2_with (first | ((with_reducible refine (HS.out _).mono ?_); rintro e w2 ⟨rfl, rfl⟩) | ((first | with_reducible refine at_load ?_ | ((with_reducible refine at_load_g ?_ ?_); (· rfl))); first | refine lc hM ?_ | refine ll hM ?_ | refine lp hM ?_) | ((with_reducible refine at_store ?_); first | (refine ls hM ?_; clear hM; intro wx hM) | (refine lw hM ?_; clear hM; intro wx hM) | (refine lt hM ?_; clear hM; intro wx hM)) | ((with_reducible refine at_alloc ?_); refine lz hM ?_; clear hM; intro gx wx hM) | ((with_reducible refine at_box ?_); refine lb hM ?_; clear hM; intro gx wx hM))
        go_ret
        exact ⟨rfl, rfl⟩
      · exact absurd (by simp [sendE]; omega) hz0
  · by_cases h1 : s = 1
    · subst h1
      have HS := Lib.hid side_1
      cases up with
      | false =>
        have e : sendE ⟨r, d, q, ws, now, false, ses, E0, E1⟩ 1 t.size = 26 := by simp [sendE]
        rw [e]
        clear h hz0 e h0
        go_enter Try.func16, Try.ntmps16
        go_wp2_with (first | ((with_reducible refine (HS.out _).mono ?_); rintro e w2 ⟨rfl, rfl⟩) | ((first | with_reducible refine at_load ?_ | ((with_reducible refine at_load_g ?_ ?_); (· rfl))); first | refine lc hM ?_ | refine ll hM ?_ | refine lp hM ?_) | ((with_reducible refine at_store ?_); first | (refine ls hM ?_; clear hM; intro wx hM) | (refine lw hM ?_; clear hM; intro wx hM) | (refine lt hM ?_; clear hM; intro wx hM)) | ((with_reducible refine at_alloc ?_); refine lz hM ?_; clear hM; intro gx wx hM) | ((with_reducible refine at_box ?_); refine lb hM ?_; clear hM; intro gx wx hM))
        go_ret
        exact ⟨rfl, rfl⟩
      | true =>
        by_cases hb : 1048576 < E1.wait.length + t.size
        · have e : sendE ⟨r, d, q, ws, now, true, ses, E0, E1⟩ 1 t.size = 9 := by simp [sendE]; omega
          rw [e]
          have c1 : decide ((1048576 : Int) < (E1.wait.length : Int) + (t.size : Int)) = true := by simp; omega
          clear h hz0 e hb h0
          go_enter Try.func16, Try.ntmps16
          go_wp2_with (first | ((with_reducible refine (HS.out _).mono ?_); rintro e w2 ⟨rfl, rfl⟩) | ((first | with_reducible refine at_load ?_ | ((with_reducible refine at_load_g ?_ ?_); (· rfl))); first | refine lc hM ?_ | refine ll hM ?_ | refine lp hM ?_) | ((with_reducible refine at_store ?_); first | (refine ls hM ?_; clear hM; intro wx hM) | (refine lw hM ?_; clear hM; intro wx hM) | (refine lt hM ?_; clear hM; intro wx hM)) | ((with_reducible refine at_alloc ?_); refine lz hM ?_; clear hM; intro gx wx hM) | ((with_reducible refine at_box ?_); refine lb hM ?_; clear hM; intro gx wx hM))
          go_ret
          exact ⟨rfl, rfl⟩
        · exact absurd (by simp [sendE]; omega) hz0
    · have HS := Lib.hid (side_no h0 h1)
      have e : sendE ⟨r, d, q, ws, now, up, ses, E0, E1⟩ s t.size = 2 := by simp [sendE, h0, h1]
      rw [e]
      clear h hz0 e h0 h1
      go_enter Try.func16, Try.ntmps16
      go_wp2_with (first | ((with_reducible refine (HS.out _).mono ?_); rintro e w2 ⟨rfl, rfl⟩) | ((first | with_reducible refine at_load ?_ | ((with_reducible refine at_load_g ?_ ?_); (· rfl))); first | refine lc hM ?_ | refine ll hM ?_ | refine lp hM ?_) | ((with_reducible refine at_store ?_); first | (refine ls hM ?_; clear hM; intro wx hM) | (refine lw hM ?_; clear hM; intro wx hM) | (refine lt hM ?_; clear hM; intro wx hM)) | ((with_reducible refine at_alloc ?_); refine lz hM ?_; clear hM; intro gx wx hM) | ((with_reducible refine at_box ?_); refine lb hM ?_; clear hM; intro gx wx hM))
      go_ret
      exact ⟨rfl, rfl⟩
theorem send_any (s : Int) (t : ByteArray) (h : HasLine G w0 L R p S w) (hl : S.e0.wait.length ≤ 1000000000 ∧ S.e1.wait.length ≤ 1000000000 ∧ t.size ≤ 1000000000) :
    Calls Try.prog 16 #[.pointer (some ⟨p, 0, none⟩), .int .i64 s, .string t] w fun e w' => e = .returned (.int .i64 (sendE S s t.size)) ∧ HasLine G w0 L R p (sendS S s (nums t)) w' := by
  unfold sendS
  rw [nums_length]
  by_cases hz : sendE S s t.size = 0
  · rw [if_pos hz, hz]
    have hz' := hz
    unfold sendE at hz'
    by_cases hs : s ≠ 0 ∧ s ≠ 1
    · rw [if_pos hs] at hz'; omega
    · rw [if_neg hs] at hz'
      have hup : S.up = true := by
        cases hu : S.up with
        | true => rfl
        | false => rw [if_pos hu] at hz'; omega
      rw [if_neg (by simp [hup])] at hz'
      by_cases h0 : s = 0
      · subst h0
        simp only [if_true] at hz' ⊢
        exact send_0 t h hup (by split at hz' <;> omega)
      · have h1 : s = 1 := by omega
        subst h1
        have e1 : ¬ ((1 : Int) = 0) := by decide
        simp only [e1, if_false] at hz' ⊢
        exact send_1 t h hup (by split at hz' <;> omega)
  · rw [if_neg hz]
    exact (send_no s t h _ rfl hz hl).mono fun e w' ⟨he, hw⟩ => ⟨he, hw ▸ h⟩
end
end Go.Proofs.Ytenflgbaibjeoaa
