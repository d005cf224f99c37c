/- Seat c: minutes, nicknames, texts, Line.Check. -/
import Derived.Test.YtlidpdjainmaiaaGreatDoorGm
namespace Go.Cht
open Go Go.Bul
/-- Is a number a minute? -/
def minB (m : Int) : Bool := decide (0 ≤ m) && decide (m ≤ 105190559)
/-- The first error of a line. -/
def chkL (m : Int) (k t : List Nat) : Int := if minB m = false then 2 else if nickB k = false then 12 else chkT t
theorem chkL_zero {m : Nat} {k t : ByteArray} : chkL (m : Nat) (nums k) (nums t) = 0 ↔ OkL ⟨m, k, t⟩ := by
  unfold chkL
  constructor
  · intro h
    split at h
    · cases h
    · rename_i h1
      split at h
      · cases h
      · rename_i h2
        simp only [minB, Bool.and_eq_true, decide_eq_true_eq, Bool.not_eq_false] at h1
        exact ⟨by show m ≤ 105190559; omega, by simpa using h2, h⟩
  · rintro ⟨h1, h2, h3⟩
    rw [if_neg (by simp only [minB, Bool.and_eq_true, decide_eq_true_eq, Bool.not_eq_false]; simp only at h1; omega), if_neg (by simp only at h2; rw [h2]; simp)]
    exact h3
/-- The cells of a line. -/
def lnA (l : Ln) : Array Value := #[.int .i64 (l.m : Nat), .string l.nick, .string l.text]
theorem nk_all {l : List Nat} {k : Nat} (h : k < l.length) (e : (l.drop k).all nkB = l.all nkB) : l.all nkB = (nkB (l.getD k 0) && (l.drop (k + 1)).all nkB) := by
  rw [← e, List.drop_eq_getElem_cons h, List.all_cons]
  simp [h]
end Go.Cht
namespace Go.Proofs.YtlidpdjainmaiaaGreatDoor
open Go Go.RowKit Go.Bul Go.Thg Go.Lin Go.Cht
theorem isMin_any (m : Int) (w : World) : Calls Tryz.prog 17 #[.int .i64 m] w fun e w' => e = .returned (.bool (minB m)) ∧ w = w' := by
  unfold minB
  by_cases h1 : 0 ≤ m <;> by_cases h2 : m ≤ 105190559
  all_goals
    go_enter Tryz.func17, Tryz.ntmps17
    go_wp2_with fail
    go_ret
    exact ⟨by simp [h1, h2], rfl⟩
set_option maxRecDepth 20000 in
set_option maxHeartbeats 4000000 in
theorem isNick_any (s : ByteArray) (w : World) : Calls Tryz.prog 16 #[.string s] w fun e w' => e = .returned (.bool (nickB (nums s))) ∧ Below w.heap.size w w' := by
  have hM := Mem.start [] w
  obtain ⟨m, hm⟩ : ∃ m, s.size = m := ⟨_, rfl⟩
  have hlen : (nums s).length = m := by rw [nums_length, hm]
  have HLEN := Lib.hid hlen
  have m0 : (0 : Int) ≤ (m : Int) := Int.natCast_nonneg _
  by_cases h1 : 1 ≤ m
  · have j1 : ¬ (m : Int) < 1 := by omega
    by_cases h2 : m ≤ 16
    · have j2 : ¬ (16 : Int) < (m : Int) := by omega
      obtain ⟨c, hc⟩ : ∃ c, (nums s).getD 0 0 = c := ⟨_, rfl⟩
      have hz0 : 0 < s.size := by omega
      have hc0 : (s[0]'hz0).toNat = c := by rw [← num_at s 0 hz0]; exact hc
      have HL := Lib.hid (isLetter_any c)
      have HN := Lib.hid (show nickB (nums s) = (ltrB c && (nums s).all nkB) by rw [← hc]; simp [nickB, hlen, h1, h2])
      cases hl : ltrB c with
      | false =>
        rw [hl] at HL HN
        clear hlen h1 h2 hl
        go_enter Tryz.func16, Tryz.ntmps16
        go_wp2_with ((with_reducible refine (HL.out _).mono ?_); rintro e w1 ⟨rfl, rfl⟩)
        go_ret
        exact ⟨by rw [HN.out]; rfl, hM.below⟩
      | true =>
        rw [hl] at HL HN
        clear hlen h1 h2 hl
        go_enter Tryz.func16, Tryz.ntmps16
        go_wp2_with ((with_reducible refine (HL.out _).mono ?_); rintro e w1 ⟨rfl, rfl⟩)
        have M0 := Lib.hid hM
        clear hM HL hc hc0
        go_loopw [20] (fun a wr => ∃ k : Nat, k ≤ m ∧ a = .int .i64 (k : Nat) ∧ Hid (((nums s).drop k).all nkB = (nums s).all nkB) ∧ Mem [] w [] [] wr) (fun a _ => m - (intOf a).toNat)
        case atStart => exact ⟨0, Nat.zero_le _, rfl, Lib.hid rfl, M0.out⟩
        case round =>
          clear M0
          obtain ⟨k, hk, rfl, hv, hM⟩ := hrel
          have k0 : (0 : Int) ≤ (k : Int) := Int.natCast_nonneg _
          by_cases hlt : k < m
          · have hlt' : (k : Int) < (m : Int) := by omega
            have hst := nk_all (by rw [HLEN.out]; exact hlt) hv.out
            obtain ⟨d, hd⟩ : ∃ d, (nums s).getD k 0 = d := ⟨_, rfl⟩
            have hks : k < s.size := by omega
            have hdk : (s[k]'hks).toNat = d := by rw [← num_at s k hks]; exact hd
            have HD := Lib.hid (inNick_any d)
            rw [hd] at hst
            cases hx : nkB d with
            | true =>
              rw [hx] at HD hst
              have HS := Lib.hid hst
              clear hst hx hv
              go_wp2_with ((with_reducible refine (HD.out _).mono ?_); rintro e w1 ⟨rfl, rfl⟩)
              refine ⟨⟨k + 1, by omega, by go_num, Lib.hid ?_, hM⟩, by simp [intOf]; omega⟩
              rw [HS.out]
              rfl
            | false =>
              rw [hx] at HD hst
              have HS := Lib.hid hst
              clear hst hx hv
              go_wp2_with ((with_reducible refine (HD.out _).mono ?_); rintro e w1 ⟨rfl, rfl⟩)
              go_ret
              exact ⟨by rw [HN.out, HS.out]; rfl, hM.below⟩
          · obtain rfl : k = m := by omega
            have HV := Lib.hid (show (nums s).all nkB = true by
              rw [← hv.out, List.drop_of_length_le (by rw [HLEN.out]; exact Nat.le_refl _)]
              rfl)
            clear hv
            go_wp2_with fail
            go_ret
            exact ⟨by rw [HN.out, HV.out]; rfl, hM.below⟩
    · have j2 : (16 : Int) < (m : Int) := by omega
      have HN := Lib.hid (show nickB (nums s) = false by simp [nickB, hlen, h2])
      clear hlen h1 h2
      go_enter Tryz.func16, Tryz.ntmps16
      go_wp2_with fail
      go_ret
      exact ⟨by rw [HN.out]; rfl, hM.below⟩
  · have j1 : (m : Int) < 1 := by omega
    have HN := Lib.hid (show nickB (nums s) = false by simp [nickB, hlen, h1])
    clear hlen h1
    go_enter Tryz.func16, Tryz.ntmps16
    go_wp2_with fail
    go_ret
    exact ⟨by rw [HN.out]; rfl, hM.below⟩
theorem chkT_any (s : ByteArray) (w : World) (hsz : s.size ≤ 1000000000) : Calls Tryz.prog 18 #[.string s] w fun e w' => e = .returned (.int .i64 (chkT (nums s))) ∧ Below w.heap.size w w' := by
  have hM := Mem.start [] w
  obtain ⟨m, hm⟩ : ∃ m, s.size = m := ⟨_, rfl⟩
  have hlen : (nums s).length = m := by rw [nums_length, hm]
  have m0 : (0 : Int) ≤ (m : Int) := Int.natCast_nonneg _
  have HP := Lib.hid (fun w => printable_any s w hsz)
  clear hsz
  by_cases h1 : m = 0
  · have hs : s = ⟨#[]⟩ := nums_inj (by rw [nums_nil]; exact List.eq_nil_of_length_eq_zero (hlen.trans h1))
    subst hs
    clear hlen h1 hm m0
    go_enter Tryz.func18, Tryz.ntmps18
    go_wp2_with fail
    go_ret
    exact ⟨rfl, hM.below⟩
  · have hne : nums s ≠ [] := by
      intro h
      rw [h] at hlen
      exact h1 hlen.symm
    have he : s.toList.isEmpty = false := isEmpty_no (by omega)
    by_cases h2 : m ≤ 400
    · have j2 : ¬ (400 : Int) < (m : Int) := by omega
      have HT := Lib.hid (show chkT (nums s) = if prtB (nums s) then 0 else 6 by rw [chkT, if_neg hne, if_neg (by rw [hlen]; omega)])
      cases hp : prtB (nums s)
      all_goals
        rw [hp] at HP HT
        clear hlen h1 h2 hne hp
        go_enter Tryz.func18, Tryz.ntmps18
        go_wp2_with ((with_reducible refine (HP.out _).mono ?_); rintro e w1 ⟨rfl, hb⟩; replace hM := hM.step hb; clear hb)
        go_ret
        exact ⟨by rw [HT.out]; rfl, hM.below⟩
    · have j2 : (400 : Int) < (m : Int) := by omega
      have HT := Lib.hid (show chkT (nums s) = 5 by rw [chkT, if_neg hne, if_pos (by rw [hlen]; omega)])
      clear hlen h1 h2 hne
      go_enter Tryz.func18, Tryz.ntmps18
      go_wp2_with fail
      go_ret
      exact ⟨by rw [HT.out]; rfl, hM.below⟩
set_option maxRecDepth 20000 in
theorem lcheck_any (m : Int) (k t : ByteArray) (w : World) (hsz : t.size ≤ 1000000000) : Calls Tryz.prog 6 #[.agg #[.int .i64 m, .string k, .string t]] w fun e w' => e = .returned (.int .i64 (chkL m (nums k) (nums t))) ∧ Below w.heap.size w w' := by
  have hM := Mem.start [] w
  have HM := Lib.hid (isMin_any m)
  have HN := Lib.hid (isNick_any k)
  have HT := Lib.hid (fun w => chkT_any t w hsz)
  clear hsz
  unfold chkL
  cases h1 : minB m <;> cases h2 : nickB (nums k)
  all_goals
    rw [h1] at HM
    rw [h2] at HN
    go_enter Tryz.func6, Tryz.ntmps6
    go_wp2_with (first | ((with_reducible refine at_box ?_); refine nlb hM ?_ (n := 3) (hn := rfl); clear hM; intro gb wb hM) | ((with_reducible refine (HM.out _).mono ?_); rintro e w1 ⟨rfl, rfl⟩) | ((with_reducible refine (HN.out _).mono ?_); rintro e w1 ⟨rfl, hb⟩; replace hM := hM.step hb; clear hb) | ((with_reducible refine (HT.out _).mono ?_); rintro e w1 ⟨rfl, hb⟩; replace hM := hM.step hb; clear hb) | ((first | with_reducible refine at_load ?_ | ((with_reducible refine at_load_g ?_ ?_); (· rfl))); first | refine nll hM ?_ | refine nlc hM ?_ | refine nlp hM ?_) | ((with_reducible refine at_store ?_); first | (refine nlw hM ?_; clear hM; intro wx hM) | (refine nls hM ?_; clear hM; intro wx hM) | (refine nlt hM ?_; clear hM; intro wx hM)) | ((with_reducible refine at_alloc ?_); refine nlz hM ?_; clear hM; intro gx wx hM) | ((with_reducible refine at_box ?_); first | (refine nlb hM ?_; clear hM; intro gx wx hM) | (refine nlx hM ?_; clear hM; intro gx wx hM)))
    go_ret
    exact ⟨rfl, hM.below⟩
end Go.Proofs.YtlidpdjainmaiaaGreatDoor
