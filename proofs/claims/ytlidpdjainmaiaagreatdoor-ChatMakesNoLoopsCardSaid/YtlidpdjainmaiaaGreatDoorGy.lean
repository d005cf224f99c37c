/- Seat c: skip over digits and blanks, Number at a number's digits, Trim. -/
import Derived.Test.YtlidpdjainmaiaaGreatDoorGx
namespace Go.Cht
open Go Go.Bul
/-- The first place from k on whose byte is not of a class. -/
def skp (p : Nat → Bool) (l : List Nat) (k : Nat) : Nat := k + ((l.drop k).takeWhile p).length
theorem skp_step {p : Nat → Bool} {l : List Nat} {k : Nat} (h : k < l.length) : skp p l k = if p (l.getD k 0) then skp p l (k + 1) else k := by
  unfold skp
  rw [List.drop_eq_getElem_cons h, List.takeWhile_cons]
  have e : l.getD k 0 = l[k] := by simp [List.getD_eq_getElem?_getD, List.getElem?_eq_getElem h]
  rw [e]
  split
  · simp only [List.length_cons]; omega
  · simp
theorem skp_end {p : Nat → Bool} {l : List Nat} {k : Nat} (h : l.length ≤ k) : skp p l k = k := by
  unfold skp
  rw [List.drop_of_length_le h]
  rfl
theorem skp_all {p : Nat → Bool} {l : List Nat} (h : ∀ b ∈ l, p b = true) : skp p l 0 = l.length := by
  unfold skp
  rw [List.drop_zero, Nat.zero_add]
  congr 1
  induction l with
  | nil => rfl
  | cons a l ih => rw [List.takeWhile_cons, if_pos (h a (List.Mem.head _)), ih fun b hb => h b (List.Mem.tail _ hb)]
theorem skp_le (p : Nat → Bool) (l : List Nat) : skp p l 0 ≤ l.length := by
  unfold skp
  rw [List.drop_zero, Nat.zero_add]
  exact (List.takeWhile_sublist p).length_le
theorem skp_drop (p : Nat → Bool) (l : List Nat) : l.drop (skp p l 0) = l.dropWhile p := by
  unfold skp
  rw [List.drop_zero, Nat.zero_add]
  induction l with
  | nil => rfl
  | cons a l ih =>
    rw [List.takeWhile_cons, List.dropWhile_cons]
    split
    · exact ih
    · rfl
theorem rtr_part {l : List Nat} {f k : Nat} (hf : f ≤ k) (hk : k < l.length) : (l.take (k + 1)).drop f = (l.take k).drop f ++ [l.getD k 0] := by
  have e : l.getD k 0 = l[k] := by simp [List.getD_eq_getElem?_getD, List.getElem?_eq_getElem hk]
  rw [List.take_succ_eq_append_getElem hk, List.drop_append_of_le_length (by rw [List.length_take]; omega), e]
theorem valD_step {l : List Nat} {k e : Nat} (hk : k < l.length) (he : l.getD k 0 = 48 + e) : valD (l.take (k + 1)) = 10 * valD (l.take k) + e := by
  have e1 : l.getD k 0 = l[k] := by simp [List.getD_eq_getElem?_getD, List.getElem?_eq_getElem hk]
  rw [List.take_succ_eq_append_getElem hk, valD_snoc, ← e1, he]
  omega
end Go.Cht
namespace Go.Proofs.YtlidpdjainmaiaaGreatDoor
open Go Go.RowKit Go.Bul Go.Thg Go.Lin Go.Cht
set_option maxRecDepth 20000 in
set_option maxHeartbeats 2000000 in
theorem skipD_any (s : ByteArray) (k0 : Nat) (h : k0 ≤ s.size) (hsz : s.size ≤ 1000000000) (w : World) : Calls Tryz.prog 70 #[.string s, .int .i64 (k0 : Nat), .func (.func 32) #[] #[]] w fun e w' => e = .returned (.int .i64 (skp digC (nums s) k0 : Nat)) ∧ Below w.heap.size w w' := by
  have hcls := isDigit_any
  generalize digC = cls at hcls ⊢
  have hM := Mem.start [] w
  obtain ⟨m, hm⟩ : ∃ m, s.size = m := ⟨_, rfl⟩
  have m0 : (0 : Int) ≤ (m : Int) := Int.natCast_nonneg _
  have m1 : (m : Int) ≤ 1000000000 := by omega
  have HLEN := Lib.hid (show (nums s).length = m by rw [nums_length, hm])
  have hk0 : k0 ≤ m := by omega
  have HD := Lib.hid hcls
  obtain ⟨N, hN⟩ : ∃ N, skp cls (nums s) k0 = N := ⟨_, rfl⟩
  rw [hN]
  have HN := Lib.hid hN
  clear hN h hsz hcls
  go_enter Tryz.func70, Tryz.ntmps70
  go_wp2_with fail
  have M0 := Lib.hid hM
  clear hM
  go_loopw [1] (fun a wr => ∃ k : Nat, k ≤ m ∧ a = .int .i64 (k : Nat) ∧ Hid (skp cls (nums s) k = N) ∧ Mem [] w [] [] wr) (fun a _ => m - (intOf a).toNat)
  case atStart => exact ⟨k0, hk0, rfl, HN, M0.out⟩
  case round =>
    clear M0
    obtain ⟨k, hk, rfl, hv, hM⟩ := hrel
    have k1 : (0 : Int) ≤ (k : Int) := Int.natCast_nonneg _
    by_cases hlt : k < m
    · have hlt' : (k : Int) < (m : Int) := by omega
      obtain ⟨d, hd⟩ : ∃ d, (nums s).getD k 0 = d := ⟨_, rfl⟩
      have hks : k < s.size := by omega
      have hdk : (s[k]'hks).toNat = d := by rw [← num_at s k hks]; exact hd
      have hst := skp_step (p := cls) (l := nums s) (k := k) (by rw [HLEN.out]; exact hlt)
      rw [hd] at hst
      have HC := Lib.hid (fun w => HD.out d w)
      cases hx : cls d with
      | true =>
        rw [hx] at HC hst
        have HS := Lib.hid (show skp cls (nums s) (k + 1) = N by rw [← hv.out, hst]; rfl)
        clear hst hx hv
        go_wp2_with ((with_reducible refine (HC.out _).mono ?_); rintro e w1 ⟨rfl, rfl⟩)
        exact ⟨⟨k + 1, by omega, by go_num, HS, hM⟩, by simp [intOf]; omega⟩
      | false =>
        rw [hx] at HC hst
        have HS := Lib.hid (show k = N by rw [← hv.out, hst]; rfl)
        clear hst hx hv
        go_wp2_with ((with_reducible refine (HC.out _).mono ?_); rintro e w1 ⟨rfl, rfl⟩)
        go_ret
        exact ⟨by rw [← HS.out]; rfl, hM.below⟩
    · obtain rfl : k = m := by omega
      have HS := Lib.hid (show k = N by rw [← hv.out, skp_end (by rw [HLEN.out]; exact Nat.le_refl _)])
      clear hv
      go_wp2_with fail
      go_ret
      exact ⟨by rw [← HS.out]; rfl, hM.below⟩
set_option maxRecDepth 20000 in
set_option maxHeartbeats 2000000 in
theorem skipB_any (s : ByteArray) (k0 : Nat) (h : k0 ≤ s.size) (hsz : s.size ≤ 1000000000) (w : World) : Calls Tryz.prog 70 #[.string s, .int .i64 (k0 : Nat), .func (.func 91) #[] #[]] w fun e w' => e = .returned (.int .i64 (skp blk (nums s) k0 : Nat)) ∧ Below w.heap.size w w' := by
  have hcls := isBlank_any
  generalize blk = cls at hcls ⊢
  have hM := Mem.start [] w
  obtain ⟨m, hm⟩ : ∃ m, s.size = m := ⟨_, rfl⟩
  have m0 : (0 : Int) ≤ (m : Int) := Int.natCast_nonneg _
  have m1 : (m : Int) ≤ 1000000000 := by omega
  have HLEN := Lib.hid (show (nums s).length = m by rw [nums_length, hm])
  have hk0 : k0 ≤ m := by omega
  have HD := Lib.hid hcls
  obtain ⟨N, hN⟩ : ∃ N, skp cls (nums s) k0 = N := ⟨_, rfl⟩
  rw [hN]
  have HN := Lib.hid hN
  clear hN h hsz hcls
  go_enter Tryz.func70, Tryz.ntmps70
  go_wp2_with fail
  have M0 := Lib.hid hM
  clear hM
  go_loopw [1] (fun a wr => ∃ k : Nat, k ≤ m ∧ a = .int .i64 (k : Nat) ∧ Hid (skp cls (nums s) k = N) ∧ Mem [] w [] [] wr) (fun a _ => m - (intOf a).toNat)
  case atStart => exact ⟨k0, hk0, rfl, HN, M0.out⟩
  case round =>
    clear M0
    obtain ⟨k, hk, rfl, hv, hM⟩ := hrel
    have k1 : (0 : Int) ≤ (k : Int) := Int.natCast_nonneg _
    by_cases hlt : k < m
    · have hlt' : (k : Int) < (m : Int) := by omega
      obtain ⟨d, hd⟩ : ∃ d, (nums s).getD k 0 = d := ⟨_, rfl⟩
      have hks : k < s.size := by omega
      have hdk : (s[k]'hks).toNat = d := by rw [← num_at s k hks]; exact hd
      have hst := skp_step (p := cls) (l := nums s) (k := k) (by rw [HLEN.out]; exact hlt)
      rw [hd] at hst
      have HC := Lib.hid (fun w => HD.out d w)
      cases hx : cls d with
      | true =>
        rw [hx] at HC hst
        have HS := Lib.hid (show skp cls (nums s) (k + 1) = N by rw [← hv.out, hst]; rfl)
        clear hst hx hv
        go_wp2_with ((with_reducible refine (HC.out _).mono ?_); rintro e w1 ⟨rfl, rfl⟩)
        exact ⟨⟨k + 1, by omega, by go_num, HS, hM⟩, by simp [intOf]; omega⟩
      | false =>
        rw [hx] at HC hst
        have HS := Lib.hid (show k = N by rw [← hv.out, hst]; rfl)
        clear hst hx hv
        go_wp2_with ((with_reducible refine (HC.out _).mono ?_); rintro e w1 ⟨rfl, rfl⟩)
        go_ret
        exact ⟨by rw [← HS.out]; rfl, hM.below⟩
    · obtain rfl : k = m := by omega
      have HS := Lib.hid (show k = N by rw [← hv.out, skp_end (by rw [HLEN.out]; exact Nat.le_refl _)])
      clear hv
      go_wp2_with fail
      go_ret
      exact ⟨by rw [← HS.out]; rfl, hM.below⟩
theorem skipD0 (s : ByteArray) (hsz : s.size ≤ 1000000000) (w : World) : Calls Tryz.prog 70 #[.string s, .int .i64 0, .func (.func 32) #[] #[]] w fun e w' => e = .returned (.int .i64 (skp digC (nums s) 0 : Nat)) ∧ Below w.heap.size w w' := skipD_any s 0 (Nat.zero_le _) hsz w
theorem skipB0 (s : ByteArray) (hsz : s.size ≤ 1000000000) (w : World) : Calls Tryz.prog 70 #[.string s, .int .i64 0, .func (.func 91) #[] #[]] w fun e w' => e = .returned (.int .i64 (skp blk (nums s) 0 : Nat)) ∧ Below w.heap.size w w' := skipB_any s 0 (Nat.zero_le _) hsz w
set_option maxRecDepth 20000 in
set_option maxHeartbeats 2000000 in
theorem trim_any (s : ByteArray) (hsz : s.size ≤ 1000000000) (w : World) : Calls Tryz.prog 75 #[.string s] w fun e w' => e = .returned (.string (bstr (trm (nums s)))) ∧ Below w.heap.size w w' := by
  have hM := Mem.start [] w
  obtain ⟨m, hm⟩ : ∃ m, s.size = m := ⟨_, rfl⟩
  have m0 : (0 : Int) ≤ (m : Int) := Int.natCast_nonneg _
  have m1 : (m : Int) ≤ 1000000000 := by omega
  have HLEN := Lib.hid (show (nums s).length = m by rw [nums_length, hm])
  have HK := Lib.hid (fun w => skipB0 s hsz w)
  obtain ⟨f, hf⟩ : ∃ f, skp blk (nums s) 0 = f := ⟨_, rfl⟩
  have hfm : f ≤ m := by rw [← hf, ← HLEN.out]; exact skp_le _ _
  have f0 : (0 : Int) ≤ (f : Int) := Int.natCast_nonneg _
  rw [hf] at HK
  have HT := Lib.hid (show rtr ((nums s).drop f) = trm (nums s) by rw [← hf, skp_drop]; rfl)
  generalize trm (nums s) = T at HT ⊢
  clear hf hsz
  go_enter Tryz.func75, Tryz.ntmps75
  go_wp2_with ((with_reducible refine (HK.out _).mono ?_); rintro e w1 ⟨rfl, hb⟩; replace hM := hM.step hb; clear hb)
  have M0 := Lib.hid hM
  clear hM
  go_loopw [4] (fun a wr => ∃ j : Nat, f ≤ j ∧ j ≤ m ∧ a = .int .i64 (j : Nat) ∧ Hid (rtr (((nums s).take j).drop f) = T) ∧ Mem [] w [] [] wr) (fun a _ => (intOf a).toNat)
  case atStart => exact ⟨m, hfm, Nat.le_refl _, rfl, Lib.hid (by rw [List.take_of_length_le (by rw [HLEN.out]; exact Nat.le_refl _)]; exact HT.out), M0.out⟩
  case round =>
    clear M0
    obtain ⟨j, hfj, hj, rfl, hv, hM⟩ := hrel
    by_cases hlt : f < j
    · obtain ⟨k, rfl⟩ : ∃ k, j = k + 1 := ⟨j - 1, by omega⟩
      have k0 : (0 : Int) ≤ (k : Int) := Int.natCast_nonneg _
      have hlt' : (f : Int) < (k : Int) + 1 := by omega
      have hkm' : (k : Int) < (m : Int) := by omega
      have hks : k < s.size := by omega
      obtain ⟨d, hd⟩ : ∃ d, (nums s).getD k 0 = d := ⟨_, rfl⟩
      have hdk : (s[k]'hks).toNat = d := by rw [← num_at s k hks]; exact hd
      have hp := rtr_part (l := nums s) (f := f) (k := k) (by omega) (by rw [HLEN.out]; omega)
      rw [hd] at hp
      have HC := Lib.hid (isBlank_any d)
      have hwr : IntKind.i64.wrap ((k : Int) + 1 - 1) = (k : Int) := by rw [Int.add_sub_cancel]; exact IntWalk.i64_in _ ⟨by omega, by omega⟩
      have hsb : (k : Int) + 1 - 1 = (k : Int) := Int.add_sub_cancel _ _
      cases hx : blk d with
      | true =>
        rw [hx] at HC
        have HS := Lib.hid (show rtr (((nums s).take k).drop f) = T by rw [← hv.out, hp, rtr_blank hx])
        clear hp hx hv
        go_wp2_with ((with_reducible refine (HC.out _).mono ?_); rintro e w1 ⟨rfl, rfl⟩)
        exact ⟨⟨k, by omega, by omega, by go_num, HS, hM⟩, by simp [intOf]⟩
      | false =>
        rw [hx] at HC
        have HS := Lib.hid (show ((nums s).take (k + 1)).drop f = T by rw [← hv.out, hp, rtr_stop hx])
        have hjm' : (k : Int) + 1 ≤ (m : Int) := by omega
        clear hp hx hv
        go_wp2_with ((with_reducible refine (HC.out _).mono ?_); rintro e w1 ⟨rfl, rfl⟩)
        go_ret
        refine ⟨?_, hM.below⟩
        rw [← HS.out, ← nums_extract, bstr_of_nums]
        rfl
    · obtain rfl : f = j := by omega
      have hfm' : (f : Int) ≤ (m : Int) := by omega
      have HS := Lib.hid (show ([] : List Nat) = T by
        rw [← hv.out, List.drop_of_length_le (by rw [List.length_take]; omega)]
        rfl)
      clear hv
      go_wp2_with fail
      go_ret
      refine ⟨?_, hM.below⟩
      rw [← HS.out]
      rfl
set_option maxRecDepth 20000 in
set_option maxHeartbeats 4000000 in
theorem number_any (s : ByteArray) (N : Nat) (hs : nums s = digN N) (hN : N ≤ 105190559) (w : World) : Calls Tryz.prog 48 #[.string s, .int .i64 105190559] w fun e w' => e = .returned (.tuple #[.int .i64 (N : Nat), .int .i64 0]) ∧ Below w.heap.size w w' := by
  have hM := Mem.start [] w
  obtain ⟨m, hm⟩ : ∃ m, s.size = m := ⟨_, rfl⟩
  have hlen : (nums s).length = m := by rw [nums_length, hm]
  have hml : m ≤ 10 := by rw [← hlen, hs]; exact digN_len N 10 (by decide) (by omega)
  have HK := Lib.hid (fun w => skipD0 s (by omega) w)
  rw [skp_all (fun b hb => by rw [hs] at hb; have := digN_digits _ b hb; simp [digC]; omega), hlen] at HK
  have hm1 : 1 ≤ m := by
    rw [← hlen, hs]
    exact List.length_pos_iff.2 (digN_ne N)
  have m1 : (1 : Int) ≤ (m : Int) := by omega
  have m2 : (m : Int) ≤ 10 := by omega
  have hse : s.toList.isEmpty = false := isEmpty_no (by omega)
  obtain ⟨c, hc⟩ : ∃ c, (nums s).getD 0 0 = c := ⟨_, rfl⟩
  have hz0 : 0 < s.size := by omega
  have hc0 : (s[0]'hz0).toNat = c := by rw [← num_at s 0 hz0]; exact hc
  have h48 : 1 < m → c ≠ 48 := fun h => by rw [← hc, hs]; exact digN_head N (by rw [← hs, hlen]; exact h)
  have HV := Lib.hid (show valD (nums s) = N by rw [hs, valD_digN])
  have HDG := Lib.hid (show ∀ k, k < m → ∃ e, e ≤ 9 ∧ (nums s).getD k 0 = 48 + e from fun k hk => by
    have hkl : k < (nums s).length := by omega
    have e1 : (nums s).getD k 0 = (nums s)[k] := by simp [List.getD_eq_getElem?_getD, List.getElem?_eq_getElem hkl]
    have := digN_digits N _ (by rw [← hs]; exact List.getElem_mem hkl)
    exact ⟨(nums s)[k] - 48, by omega, by rw [e1]; omega⟩)
  have HLEN := Lib.hid hlen
  have HTL := Lib.hid (fun k => valD_le (nums s) k)
  clear hlen hs
  by_cases h1 : m = 1
  · have hgt : ¬ (1 : Int) < (m : Int) := by omega
    clear h48
    go_enter Tryz.func48, Tryz.ntmps48
    go_wp2_with (first | ((with_reducible refine (HK.out _).mono ?_); rintro e w1 ⟨rfl, hb⟩; replace hM := hM.step hb; clear hb))
    have M0 := Lib.hid hM
    clear hM HK
    go_loopw [6, 32] (fun a b wr => ∃ k n : Nat, k ≤ m ∧ a = .int .i64 (n : Nat) ∧ b = .int .i64 (k : Nat) ∧ Hid (valD ((nums s).take k) = n) ∧ Mem [] w [] [] wr) (fun _ b _ => m - (intOf b).toNat)
    case atStart => exact ⟨0, 0, Nat.zero_le _, rfl, rfl, Lib.hid rfl, M0.out⟩
    case round =>
      clear M0
      obtain ⟨k, n, hk, rfl, rfl, hv, hM⟩ := hrel
      have k0 : (0 : Int) ≤ (k : Int) := Int.natCast_nonneg _
      have n0 : (0 : Int) ≤ (n : Int) := Int.natCast_nonneg _
      by_cases hlt : k < m
      · have hlt' : (k : Int) < (m : Int) := by omega
        obtain ⟨d, hd⟩ : ∃ d, (nums s).getD k 0 = d := ⟨_, rfl⟩
        have hks : k < s.size := by omega
        have hdk : (s[k]'hks).toNat = d := by rw [← num_at s k hks]; exact hd
        obtain ⟨e, he9, he⟩ := HDG.out k hlt
        have hst := valD_step (l := nums s) (k := k) (by rw [HLEN.out]; exact hlt) he
        rw [hv.out] at hst
        have hle := HTL.out (k + 1)
        rw [hst, HV.out] at hle
        have hde : d = 48 + e := by rw [← hd]; exact he
        have HS := Lib.hid hst
        have e0 : (0 : Int) ≤ (e : Int) := Int.natCast_nonneg _
        have e1 : (e : Int) ≤ 9 := by omega
        have hwd : IntKind.u8.wrap ((d : Int) - 48) = (e : Int) := by rw [hde]; show ((((48 + e : Nat) : Int) - 48) % 256) = _; omega
        have hsd : (d : Int) - 48 = (e : Int) := by omega
        have n1 : (n : Int) ≤ 10519055 := by omega
        have t1 : ¬ (10519055 : Int) < (n : Int) := by omega
        have t2 : ¬ (9 : Int) < (e : Int) := by omega
        clear hst hle he hv hde he9
        go_wp2_with fail
        all_goals exact ⟨⟨k + 1, 10 * n + e, by omega, by go_num, by go_num, HS, hM⟩, by simp [intOf]; omega⟩
      · obtain rfl : k = m := by omega
        have hnN : n = N := by rw [← hv.out, ← HV.out, List.take_of_length_le (by rw [HLEN.out]; exact Nat.le_refl _)]
        subst hnN
        clear hv
        go_wp2_with fail
        go_ret2
        exact ⟨rfl, hM.below⟩
  · have hgt : (1 : Int) < (m : Int) := by omega
    have hc48 : (((c : Nat) : Int) == 48) = false := by have := h48 (by omega); simp; omega
    clear h48
    go_enter Tryz.func48, Tryz.ntmps48
    go_wp2_with (first | ((with_reducible refine (HK.out _).mono ?_); rintro e w1 ⟨rfl, hb⟩; replace hM := hM.step hb; clear hb))
    have M0 := Lib.hid hM
    clear hM HK
    go_loopw [6, 32] (fun a b wr => ∃ k n : Nat, k ≤ m ∧ a = .int .i64 (n : Nat) ∧ b = .int .i64 (k : Nat) ∧ Hid (valD ((nums s).take k) = n) ∧ Mem [] w [] [] wr) (fun _ b _ => m - (intOf b).toNat)
    case atStart => exact ⟨0, 0, Nat.zero_le _, rfl, rfl, Lib.hid rfl, M0.out⟩
    case round =>
      clear M0
      obtain ⟨k, n, hk, rfl, rfl, hv, hM⟩ := hrel
      have k0 : (0 : Int) ≤ (k : Int) := Int.natCast_nonneg _
      have n0 : (0 : Int) ≤ (n : Int) := Int.natCast_nonneg _
      by_cases hlt : k < m
      · have hlt' : (k : Int) < (m : Int) := by omega
        obtain ⟨d, hd⟩ : ∃ d, (nums s).getD k 0 = d := ⟨_, rfl⟩
        have hks : k < s.size := by omega
        have hdk : (s[k]'hks).toNat = d := by rw [← num_at s k hks]; exact hd
        obtain ⟨e, he9, he⟩ := HDG.out k hlt
        have hst := valD_step (l := nums s) (k := k) (by rw [HLEN.out]; exact hlt) he
        rw [hv.out] at hst
        have hle := HTL.out (k + 1)
        rw [hst, HV.out] at hle
        have hde : d = 48 + e := by rw [← hd]; exact he
        have HS := Lib.hid hst
        have e0 : (0 : Int) ≤ (e : Int) := Int.natCast_nonneg _
        have e1 : (e : Int) ≤ 9 := by omega
        have hwd : IntKind.u8.wrap ((d : Int) - 48) = (e : Int) := by rw [hde]; show ((((48 + e : Nat) : Int) - 48) % 256) = _; omega
        have hsd : (d : Int) - 48 = (e : Int) := by omega
        have n1 : (n : Int) ≤ 10519055 := by omega
        have t1 : ¬ (10519055 : Int) < (n : Int) := by omega
        have t2 : ¬ (9 : Int) < (e : Int) := by omega
        clear hst hle he hv hde he9
        go_wp2_with fail
        all_goals exact ⟨⟨k + 1, 10 * n + e, by omega, by go_num, by go_num, HS, hM⟩, by simp [intOf]; omega⟩
      · obtain rfl : k = m := by omega
        have hnN : n = N := by rw [← hv.out, ← HV.out, List.take_of_length_le (by rw [HLEN.out]; exact Nat.le_refl _)]
        subst hnN
        clear hv
        go_wp2_with fail
        go_ret2
        exact ⟨rfl, hM.below⟩
end Go.Proofs.YtlidpdjainmaiaaGreatDoor
