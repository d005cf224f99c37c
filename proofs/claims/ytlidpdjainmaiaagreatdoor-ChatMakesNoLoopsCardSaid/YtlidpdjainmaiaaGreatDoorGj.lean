/- Seat c: UTF-8: Decode, Check, Valid. -/
import Derived.Test.YtlidpdjainmaiaaGreatDoorXf
namespace Go.Cht
open Go Go.Bul
/-- What Decode returns: the value, the size, the error. -/
def decE (l : List Nat) : Nat × Nat × Int := if l = [] then (0, 0, 1) else if (meas l).2 then (valB (l.take (meas l).1), (meas l).1, 0) else if (meas l).1 = 0 then (0, 0, 6) else if (meas l).1 = l.length then (0, 0, 23) else (0, 0, 3)
def vldB (l : List Nat) : Bool := vldF l.length l
theorem vldB_iff (l : List Nat) : vldB l = true ↔ ∃ cs, Vl cs ∧ l = cs.flatten :=
  ⟨vldF_yes _ l, fun ⟨cs, h1, h2⟩ => by subst h2; exact vldF_of h1 _ (Nat.le_refl _)⟩
theorem vl_split {l : List Nat} {n : Nat} (h : meas l = (n, true)) {cs : List (List Nat)} (hv : Vl cs) (hl : l = cs.flatten) : ∃ ds, cs = l.take n :: ds ∧ Vl ds ∧ l.drop n = ds.flatten := by
  cases hv with
  | nil => subst hl; simp [meas] at h
  | cons c ds h1 h2 =>
    rw [List.flatten_cons] at hl
    subst hl
    rw [meas_code h1] at h
    injection h with h3 _
    subst h3
    exact ⟨ds, by rw [List.take_left], h2, by rw [List.drop_left]⟩
theorem vl_whole {l : List Nat} (hn : l ≠ []) {cs : List (List Nat)} (hv : Vl cs) (hl : l = cs.flatten) : ∃ n, meas l = (n, true) := by
  cases hv with
  | nil => exact absurd hl hn
  | cons c ds h1 h2 =>
    rw [List.flatten_cons] at hl
    subst hl
    exact ⟨_, meas_code h1 _⟩
theorem vldB_nil : vldB [] = true := rfl
theorem vldB_step {l : List Nat} (hn : l ≠ []) : vldB l = ((meas l).2 && vldB (l.drop (meas l).1)) := by
  rw [Bool.eq_iff_iff, Bool.and_eq_true, vldB_iff, vldB_iff]
  constructor
  · rintro ⟨cs, h1, h2⟩
    obtain ⟨n, hm⟩ := vl_whole hn h1 h2
    obtain ⟨ds, _, h4, h5⟩ := vl_split hm h1 h2
    rw [hm]
    exact ⟨rfl, ds, h4, h5⟩
  · rintro ⟨h1, ds, h2, h3⟩
    obtain ⟨n, hm⟩ : ∃ n, meas l = (n, true) := ⟨_, by rw [← h1]⟩
    rw [hm] at h3
    obtain ⟨_, _, h6⟩ := meas_whole hm
    exact ⟨l.take n :: ds, .cons _ _ h6 h2, by rw [List.flatten_cons, ← h3, List.take_append_drop]⟩
theorem prtB_nil : prtB [] = true := rfl
theorem prtB_step {l : List Nat} (hn : l ≠ []) : prtB l = ((meas l).2 && (!ctlB (valB (l.take (meas l).1)) && prtB (l.drop (meas l).1))) := by
  rw [Bool.eq_iff_iff, Bool.and_eq_true, Bool.and_eq_true, prtB_iff, prtB_iff]
  constructor
  · rintro ⟨cs, h1, h2, h3⟩
    obtain ⟨n, hm⟩ := vl_whole hn h1 h2
    obtain ⟨ds, h4, h5, h6⟩ := vl_split hm h1 h2
    rw [hm]
    have h7 := h3 (l.take n) (by rw [h4]; exact .head _)
    exact ⟨rfl, by simp only; rw [h7]; rfl, ds, h5, h6, fun c hc => h3 c (by rw [h4]; exact .tail _ hc)⟩
  · rintro ⟨h1, h2, ds, h3, h4, h5⟩
    obtain ⟨n, hm⟩ : ∃ n, meas l = (n, true) := ⟨_, by rw [← h1]⟩
    rw [hm] at h2 h4
    obtain ⟨_, _, h6⟩ := meas_whole hm
    refine ⟨l.take n :: ds, .cons _ _ h6 h3, by rw [List.flatten_cons, ← h4, List.take_append_drop], fun c hc => ?_⟩
    rcases List.mem_cons.1 hc with rfl | hc
    · simpa using h2
    · exact h5 c hc
theorem prt_vld {l : List Nat} (h : vldB l = false) : prtB l = false := by
  cases hp : prtB l with
  | false => rfl
  | true =>
    obtain ⟨cs, h1, h2, _⟩ := (prtB_iff l).1 hp
    rw [(vldB_iff l).2 ⟨cs, h1, h2⟩] at h
    cases h
theorem decE_yes {l : List Nat} (h : (meas l).2 = true) : decE l = (valB (l.take (meas l).1), (meas l).1, 0) := by
  unfold decE
  rw [if_neg (by rintro rfl; simp [meas] at h), if_pos h]
theorem decE_no {l : List Nat} (h : (meas l).2 = false) : ∃ z : Int, (z != 0) = true ∧ decE l = (0, 0, z) := by
  unfold decE
  split
  · exact ⟨_, rfl, rfl⟩
  · rw [h]
    split
    · rename_i h1; cases h1
    · split
      · exact ⟨_, rfl, rfl⟩
      · split
        · exact ⟨_, rfl, rfl⟩
        · exact ⟨_, rfl, rfl⟩
end Go.Cht
namespace Go.Proofs.YtlidpdjainmaiaaGreatDoor
open Go Go.RowKit Go.Bul Go.Thg Go.Lin Go.Cht
set_option maxRecDepth 20000 in
set_option maxHeartbeats 4000000 in
theorem decode_yes (s : ByteArray) (w : World) (hy : (meas (nums s)).2 = true) : Calls Tryz.prog 82 #[.string s] w fun e w' => e = .returned (.tuple #[.int .i32 (valB ((nums s).take (meas (nums s)).1) : Nat), .int .i64 ((meas (nums s)).1 : Nat), .int .i64 0]) ∧ Below w.heap.size w w' := by
  have hM := Mem.start [] w
  obtain ⟨n, hn⟩ : ∃ n, (meas (nums s)).1 = n := ⟨_, rfl⟩
  have HME := Lib.hid (fun w => measure_any s w)
  rw [hy, hn] at HME
  have hm : meas (nums s) = (n, true) := by rw [← hn, ← hy]
  obtain ⟨n1, n2, n3⟩ := meas_whole hm
  rw [nums_length] at n1
  have hse : s.toList.isEmpty = false := isEmpty_no (by omega)
  have hz := nums_extract s 0 n
  rw [List.drop_zero] at hz
  have HVA := Lib.hid (fun w => value_any (s.extract 0 n) w (by rw [hz]; exact n3))
  rw [hz] at HVA
  have i1 : (n : Int) ≤ (s.size : Int) := by omega
  have i0 : (0 : Int) ≤ (n : Int) := Int.natCast_nonneg _
  rw [hn]
  clear n3 hm hz hy hn
  go_enter Tryz.func82, Tryz.ntmps82
  go_wp2_with (first | ((with_reducible refine (HME.out _).mono ?_); rintro e w1 ⟨rfl, hb⟩; replace hM := hM.step hb; clear hb) | ((with_reducible refine (HVA.out _).mono ?_); rintro e w1 ⟨rfl, rfl⟩))
  go_ret3
  exact ⟨rfl, hM.below⟩
set_option maxRecDepth 20000 in
set_option maxHeartbeats 4000000 in
theorem decode_no (s : ByteArray) (w : World) (hy : (meas (nums s)).2 = false) : Calls Tryz.prog 82 #[.string s] w fun e w' => (∃ z : Int, (z != 0) = true ∧ e = .returned (.tuple #[.int .i32 0, .int .i64 0, .int .i64 z])) ∧ Below w.heap.size w w' := by
  have hM := Mem.start [] w
  obtain ⟨n, hn⟩ : ∃ n, (meas (nums s)).1 = n := ⟨_, rfl⟩
  have HME := Lib.hid (fun w => measure_any s w)
  rw [hy, hn] at HME
  have hml := meas_len (nums s)
  rw [hn, nums_length] at hml
  by_cases hs : s.size = 0
  · have hse : s = ⟨#[]⟩ := nums_inj (List.length_eq_zero_iff.1 (by rw [nums_length]; exact hs))
    subst hse
    go_enter Tryz.func82, Tryz.ntmps82
    go_wp2_with fail
    go_ret3
    exact ⟨⟨_, rfl, rfl⟩, hM.below⟩
  · have hse : s.toList.isEmpty = false := isEmpty_no (by omega)
    by_cases h0 : n = 0
    · subst h0
      go_enter Tryz.func82, Tryz.ntmps82
      go_wp2_with ((with_reducible refine (HME.out _).mono ?_); rintro e w1 ⟨rfl, hb⟩; replace hM := hM.step hb; clear hb)
      go_ret3
      exact ⟨⟨_, rfl, rfl⟩, hM.below⟩
    · have i0 : (((n : Nat) : Int) == 0) = false := by simp; omega
      by_cases h1 : n = s.size
      · have i1 : (((n : Nat) : Int) == ((s.size : Nat) : Int)) = true := by simp; omega
        go_enter Tryz.func82, Tryz.ntmps82
        go_wp2_with ((with_reducible refine (HME.out _).mono ?_); rintro e w1 ⟨rfl, hb⟩; replace hM := hM.step hb; clear hb)
        go_ret3
        exact ⟨⟨_, rfl, rfl⟩, hM.below⟩
      · have i1 : (((n : Nat) : Int) == ((s.size : Nat) : Int)) = false := by simp; omega
        go_enter Tryz.func82, Tryz.ntmps82
        go_wp2_with ((with_reducible refine (HME.out _).mono ?_); rintro e w1 ⟨rfl, hb⟩; replace hM := hM.step hb; clear hb)
        go_ret3
        exact ⟨⟨_, rfl, rfl⟩, hM.below⟩
set_option maxRecDepth 20000 in
set_option maxHeartbeats 4000000 in
theorem check_any (s : ByteArray) (w : World) (hsz : s.size ≤ 1000000000) : Calls Tryz.prog 80 #[.string s] w fun e w' => (∃ a z : Int, e = .returned (.tuple #[.int .i64 a, .int .i64 z]) ∧ (z == 0) = vldB (nums s)) ∧ Below w.heap.size w w' := by
  have hM := Mem.start [] w
  obtain ⟨m, hm⟩ : ∃ m, s.size = m := ⟨_, rfl⟩
  have HM := Lib.hid hm
  have m1 : (m : Int) ≤ 1000000000 := by omega
  clear hsz
  go_enter Tryz.func80, Tryz.ntmps80
  go_wp2_with fail
  have M0 := Lib.hid hM
  clear hM
  go_loopw [4] (fun a wr => ∃ k : Nat, k ≤ m ∧ a = .int .i64 (k : Nat) ∧ Hid (vldB ((nums s).drop k) = vldB (nums s)) ∧ Mem [] w [] [] wr) (fun a _ => m - (intOf a).toNat)
  case atStart => exact ⟨0, Nat.zero_le _, rfl, Lib.hid rfl, M0.out⟩
  case round =>
    clear M0
    obtain ⟨k, hk, rfl, hv, hM⟩ := hrel
    have k0 : (0 : Int) ≤ (k : Int) := Int.natCast_nonneg _
    by_cases hlt : k < m
    · have hlt' : (k : Int) < (m : Int) := by omega
      have hx : nums (s.extract k m) = (nums s).drop k := by
        rw [nums_extract, List.take_of_length_le (by rw [nums_length]; omega)]
      have hne : (nums s).drop k ≠ [] := by
        intro h
        have := List.drop_eq_nil_iff.1 h
        rw [nums_length] at this
        omega
      have hst := vldB_step hne
      cases hw : (meas ((nums s).drop k)).2 with
      | true =>
        have hml := meas_len ((nums s).drop k)
        rw [List.length_drop, nums_length] at hml
        obtain ⟨n, hn⟩ : ∃ n, (meas ((nums s).drop k)).1 = n := ⟨_, rfl⟩
        have hn1 := (meas_whole (show meas ((nums s).drop k) = (n, true) by rw [← hn, ← hw])).2.1
        have HD := Lib.hid (fun w => decode_yes (s.extract k m) w (by rw [hx]; exact hw))
        rw [hx, hn] at HD
        rw [hn] at hml
        have n0 : (0 : Int) ≤ (n : Int) := Int.natCast_nonneg _
        have n1 : (k : Int) + (n : Int) ≤ 1000000000 := by omega
        have HN := Lib.hid (show 1 ≤ n ∧ k + n ≤ m ∧ vldB ((nums s).drop (k + n)) = vldB (nums s) by
          refine ⟨hn1, by omega, ?_⟩
          rw [← hv.out, hst, hw, hn, List.drop_drop]
          rfl)
        clear hx hne hst hw hml hn hn1 hv
        go_wp2_with ((with_reducible refine (HD.out _).mono ?_); rintro e w1 ⟨rfl, hb⟩; replace hM := hM.step hb; clear hb)
        exact ⟨⟨k + n, HN.out.2.1, by go_num, Lib.hid HN.out.2.2, hM⟩, by have := HN.out; simp [intOf]; omega⟩
      | false =>
        have HD := Lib.hid (fun w => decode_no (s.extract k m) w (by rw [hx]; exact hw))
        have HV := Lib.hid (show vldB (nums s) = false by rw [← hv.out, hst, hw]; rfl)
        clear hx hne hst hw hv
        go_wp2_with ((with_reducible refine (HD.out _).mono ?_); rintro e w1 ⟨⟨z, hz, rfl⟩, hb⟩; replace hM := hM.step hb; clear hb)
        go_ret2
        exact ⟨⟨_, _, rfl, by rw [HV.out]; simpa using hz⟩, hM.below⟩
    · obtain rfl : k = m := by omega
      have HV := Lib.hid (show vldB (nums s) = true by
        rw [← hv.out, List.drop_of_length_le (by rw [nums_length, HM.out]; exact Nat.le_refl _)]
        rfl)
      clear hv
      go_wp2_with fail
      go_ret2
      exact ⟨⟨_, _, rfl, by rw [HV.out]; rfl⟩, hM.below⟩
theorem valid_any (s : ByteArray) (w : World) (hsz : s.size ≤ 1000000000) : Calls Tryz.prog 63 #[.string s] w fun e w' => e = .returned (.bool (vldB (nums s))) ∧ Below w.heap.size w w' := by
  have hM := Mem.start [] w
  have HC := Lib.hid (fun w => check_any s w hsz)
  clear hsz
  go_enter Tryz.func63, Tryz.ntmps63
  go_wp2_with ((with_reducible refine (HC.out _).mono ?_); rintro e w1 ⟨⟨a, z, rfl, hz⟩, hb⟩; replace hM := hM.step hb; clear hb)
  go_ret
  exact ⟨by simp, hM.below⟩
end Go.Proofs.YtlidpdjainmaiaaGreatDoor
