/- Seat c: classes of bytes and runes. (Printed by mkgg.py.) Seat c: UTF-8: length, continues, measure. Seat c: UTF-8: value. (Printed by mkgi.py.) -/
import Derived.Test.YtlidpdjainmaiaaGreatDoorGd
import Derived.Laws.BitsLemmas
namespace Go.Cht
def lowC (c : Nat) : Bool := decide (97 ≤ c) && decide (c ≤ 122)
def uppC (c : Nat) : Bool := decide (65 ≤ c) && decide (c ≤ 90)
def digC (c : Nat) : Bool := decide (48 ≤ c) && decide (c ≤ 57)
theorem ltrB_eq (c : Nat) : ltrB c = (lowC c || uppC c) := rfl
theorem nkB_eq (c : Nat) : nkB c = (ltrB c || digC c || c == 45 || c == 95) := rfl
end Go.Cht
namespace Go.Proofs.YtlidpdjainmaiaaGreatDoor
open Go Go.RowKit Go.Bul Go.Thg Go.Lin Go.Cht
theorem isLower_any (c : Nat) (w : World) : Calls Tryz.prog 31 #[.int .u8 (c : Nat)] w fun e w' => e = .returned (.bool (lowC c)) ∧ w = w' := by
  by_cases h1 : 97 ≤ c <;> by_cases h2 : c ≤ 122
  all_goals
    have i1 : ((97 : Int) ≤ (c : Nat)) = (97 ≤ c) := by rw [show (97 : Int) = ((97 : Nat) : Int) from rfl, Int.ofNat_le]
    have i2 : (((c : Nat) : Int) ≤ 122) = (c ≤ 122) := by rw [show (122 : Int) = ((122 : Nat) : Int) from rfl, Int.ofNat_le]
    go_enter Tryz.func31, Tryz.ntmps31
    go_wp2_with fail
    go_ret
    exact ⟨by simp [lowC, h1, h2], rfl⟩
theorem isUpper_any (c : Nat) (w : World) : Calls Tryz.prog 62 #[.int .u8 (c : Nat)] w fun e w' => e = .returned (.bool (uppC c)) ∧ w = w' := by
  by_cases h1 : 65 ≤ c <;> by_cases h2 : c ≤ 90
  all_goals
    have i1 : ((65 : Int) ≤ (c : Nat)) = (65 ≤ c) := by rw [show (65 : Int) = ((65 : Nat) : Int) from rfl, Int.ofNat_le]
    have i2 : (((c : Nat) : Int) ≤ 90) = (c ≤ 90) := by rw [show (90 : Int) = ((90 : Nat) : Int) from rfl, Int.ofNat_le]
    go_enter Tryz.func62, Tryz.ntmps62
    go_wp2_with fail
    go_ret
    exact ⟨by simp [uppC, h1, h2], rfl⟩
theorem isDigit_any (c : Nat) (w : World) : Calls Tryz.prog 32 #[.int .u8 (c : Nat)] w fun e w' => e = .returned (.bool (digC c)) ∧ w = w' := by
  by_cases h1 : 48 ≤ c <;> by_cases h2 : c ≤ 57
  all_goals
    have i1 : ((48 : Int) ≤ (c : Nat)) = (48 ≤ c) := by rw [show (48 : Int) = ((48 : Nat) : Int) from rfl, Int.ofNat_le]
    have i2 : (((c : Nat) : Int) ≤ 57) = (c ≤ 57) := by rw [show (57 : Int) = ((57 : Nat) : Int) from rfl, Int.ofNat_le]
    go_enter Tryz.func32, Tryz.ntmps32
    go_wp2_with fail
    go_ret
    exact ⟨by simp [digC, h1, h2], rfl⟩
theorem glower_any (c : Nat) (w : World) : Calls Tryz.prog 59 #[.int .u8 (c : Nat)] w fun e w' => e = .returned (.bool (lowC c)) ∧ w = w' := by
  by_cases h1 : 97 ≤ c <;> by_cases h2 : c ≤ 122
  all_goals
    have i1 : ((97 : Int) ≤ (c : Nat)) = (97 ≤ c) := by rw [show (97 : Int) = ((97 : Nat) : Int) from rfl, Int.ofNat_le]
    have i2 : (((c : Nat) : Int) ≤ 122) = (c ≤ 122) := by rw [show (122 : Int) = ((122 : Nat) : Int) from rfl, Int.ofNat_le]
    go_enter Tryz.func59, Tryz.ntmps59
    go_wp2_with fail
    go_ret
    exact ⟨by simp [lowC, h1, h2], rfl⟩
theorem isBlank_any (c : Nat) (w : World) : Calls Tryz.prog 91 #[.int .u8 (c : Nat)] w fun e w' => e = .returned (.bool (blk c)) ∧ w = w' := by
  by_cases h1 : c = 32
  · subst h1
    go_enter Tryz.func91, Tryz.ntmps91
    go_wp2_with fail
    go_ret
    exact ⟨rfl, rfl⟩
  · by_cases h2 : c = 9
    · subst h2
      go_enter Tryz.func91, Tryz.ntmps91
      go_wp2_with fail
      go_ret
      exact ⟨rfl, rfl⟩
    · have i1 : (((c : Nat) : Int) == 32) = false := by simp; omega
      have i2 : (((c : Nat) : Int) == 9) = false := by simp; omega
      go_enter Tryz.func91, Tryz.ntmps91
      go_wp2_with fail
      go_ret
      exact ⟨by simp [blk, h1, h2], rfl⟩
theorem isLetter_any (c : Nat) (w : World) : Calls Tryz.prog 37 #[.int .u8 (c : Nat)] w fun e w' => e = .returned (.bool (ltrB c)) ∧ w = w' := by
  have H1 := Lib.hid (isLower_any c)
  have H2 := Lib.hid (isUpper_any c)
  rw [ltrB_eq]
  cases h1 : lowC c
  all_goals
    rw [h1] at H1
    go_enter Tryz.func37, Tryz.ntmps37
    go_wp2_with (first | ((with_reducible refine (H1.out _).mono ?_); rintro e w1 ⟨rfl, rfl⟩) | ((with_reducible refine (H2.out _).mono ?_); rintro e w1 ⟨rfl, rfl⟩))
    go_ret
    exact ⟨by simp, rfl⟩
theorem inNick_any (c : Nat) (w : World) : Calls Tryz.prog 38 #[.int .u8 (c : Nat)] w fun e w' => e = .returned (.bool (nkB c)) ∧ w = w' := by
  have H1 := Lib.hid (isLetter_any c)
  have H2 := Lib.hid (isDigit_any c)
  rw [nkB_eq]
  have i1 : (((c : Nat) : Int) == 45) = (c == 45) := by rw [Bool.eq_iff_iff]; simp; omega
  have i2 : (((c : Nat) : Int) == 95) = (c == 95) := by rw [Bool.eq_iff_iff]; simp; omega
  generalize hb1 : (c == 45) = b1 at i1
  generalize hb2 : (c == 95) = b2 at i2
  cases h1 : ltrB c <;> cases h2 : digC c <;> cases b1 <;> cases b2
  all_goals
    rw [h1] at H1
    rw [h2] at H2
    clear hb1 hb2
    go_enter Tryz.func38, Tryz.ntmps38
    go_wp2_with (first | ((with_reducible refine (H1.out _).mono ?_); rintro e w1 ⟨rfl, rfl⟩) | ((with_reducible refine (H2.out _).mono ?_); rintro e w1 ⟨rfl, rfl⟩))
    go_ret
    exact ⟨by simp, rfl⟩
/-- What lies in a range of runes. -/
theorem ctl_any (r : Nat) (w : World) : Calls Tryz.prog 65 #[.int .i32 (r : Nat)] w fun e w' => e = .returned (.bool (ctlB r)) ∧ w = w' := by
  have d1 : ((r : Int) ≤ 31) = (r ≤ 31) := by rw [show (31 : Int) = ((31 : Nat) : Int) from rfl, Int.ofNat_le]
  have d2 : ((127 : Int) ≤ (r : Nat)) = (127 ≤ r) := by rw [show (127 : Int) = ((127 : Nat) : Int) from rfl, Int.ofNat_le]
  have d3 : ((r : Int) ≤ 159) = (r ≤ 159) := by rw [show (159 : Int) = ((159 : Nat) : Int) from rfl, Int.ofNat_le]
  have i1 : (((r : Nat) : Int) == 8232) = decide (r = 8232) := by rw [Bool.eq_iff_iff]; simp; omega
  have i2 : (((r : Nat) : Int) == 8233) = decide (r = 8233) := by rw [Bool.eq_iff_iff]; simp; omega
  have hu : ctlB r = (decide (r ≤ 31) || (decide (127 ≤ r) && decide (r ≤ 159)) || decide (r = 8232) || decide (r = 8233)) := rfl
  rw [hu]
  clear hu
  by_cases h1 : r ≤ 31 <;> by_cases h2 : 127 ≤ r <;> by_cases h3 : r ≤ 159
  all_goals
    generalize decide (r = 8232) = b1 at i1 ⊢
    generalize decide (r = 8233) = b2 at i2 ⊢
    cases b1 <;> cases b2
  all_goals
    go_enter Tryz.func65, Tryz.ntmps65
    go_wp2_with fail
    go_ret
    exact ⟨by simp [h1, h2, h3], rfl⟩
theorem gctl_any (r : Nat) (w : World) : Calls Tryz.prog 72 #[.int .i32 (r : Nat)] w fun e w' => e = .returned (.bool (ctlB r)) ∧ w = w' := by
  have d1 : ((r : Int) ≤ 31) = (r ≤ 31) := by rw [show (31 : Int) = ((31 : Nat) : Int) from rfl, Int.ofNat_le]
  have d2 : ((127 : Int) ≤ (r : Nat)) = (127 ≤ r) := by rw [show (127 : Int) = ((127 : Nat) : Int) from rfl, Int.ofNat_le]
  have d3 : ((r : Int) ≤ 159) = (r ≤ 159) := by rw [show (159 : Int) = ((159 : Nat) : Int) from rfl, Int.ofNat_le]
  have i1 : (((r : Nat) : Int) == 8232) = decide (r = 8232) := by rw [Bool.eq_iff_iff]; simp; omega
  have i2 : (((r : Nat) : Int) == 8233) = decide (r = 8233) := by rw [Bool.eq_iff_iff]; simp; omega
  have hu : ctlB r = (decide (r ≤ 31) || (decide (127 ≤ r) && decide (r ≤ 159)) || decide (r = 8232) || decide (r = 8233)) := rfl
  rw [hu]
  clear hu
  by_cases h1 : r ≤ 31 <;> by_cases h2 : 127 ≤ r <;> by_cases h3 : r ≤ 159
  all_goals
    generalize decide (r = 8232) = b1 at i1 ⊢
    generalize decide (r = 8233) = b2 at i2 ⊢
    cases b1 <;> cases b2
  all_goals
    go_enter Tryz.func72, Tryz.ntmps72
    go_wp2_with fail
    go_ret
    exact ⟨by simp [h1, h2, h3], rfl⟩
end Go.Proofs.YtlidpdjainmaiaaGreatDoor
namespace Go.Proofs.YtlidpdjainmaiaaGreatDoor
open Go Go.RowKit Go.Bul Go.Thg Go.Lin Go.Cht
theorem gqx {w : World} {C : World → Prop} {o : Oper} {a : Act} {x y : Operand} {s : ByteArray} {i : Int} {k c : Nat} (hk : k < s.size) (hc : (nums s).getD k 0 = c) (hi : i = (k : Nat)) (ho : o.op = .index 9 x y := by rfl) (hx : a.eval x = .string s := by rfl) (hy : a.eval y = .int .i64 i := by rfl) : o.quietAt Tryz.prog a C w (.int .u8 (c : Nat)) := by
  have h : (execOp a.eval o).run Tryz.prog w = .ok (.value (.int .u8 (c : Nat))) w := by
    unfold execOp
    simp only [ho, hx, hy, Sem.run_bind, Sem.run_pure, Result.andThen_ok, run_six hi hk hc]
  unfold Oper.quietAt
  rw [h]
  exact ⟨rfl, rfl⟩
theorem length_any (c : Nat) (w : World) : Calls Tryz.prog 103 #[.int .u8 (c : Nat)] w fun e w' => e = .returned (.int .i64 (lenB c : Nat)) ∧ w = w' := by
  have d1 : ((240 : Int) ≤ (c : Nat)) = (240 ≤ c) := by rw [show (240 : Int) = ((240 : Nat) : Int) from rfl, Int.ofNat_le]
  have d2 : (((c : Nat) : Int) ≤ 244) = (c ≤ 244) := by rw [show (244 : Int) = ((244 : Nat) : Int) from rfl, Int.ofNat_le]
  have d3 : ((224 : Int) ≤ (c : Nat)) = (224 ≤ c) := by rw [show (224 : Int) = ((224 : Nat) : Int) from rfl, Int.ofNat_le]
  have d4 : (((c : Nat) : Int) ≤ 239) = (c ≤ 239) := by rw [show (239 : Int) = ((239 : Nat) : Int) from rfl, Int.ofNat_le]
  have d5 : ((194 : Int) ≤ (c : Nat)) = (194 ≤ c) := by rw [show (194 : Int) = ((194 : Nat) : Int) from rfl, Int.ofNat_le]
  have d6 : (((c : Nat) : Int) ≤ 223) = (c ≤ 223) := by rw [show (223 : Int) = ((223 : Nat) : Int) from rfl, Int.ofNat_le]
  have d7 : (((c : Nat) : Int) ≤ 127) = (c ≤ 127) := by rw [show (127 : Int) = ((127 : Nat) : Int) from rfl, Int.ofNat_le]
  obtain ⟨n, hn⟩ : ∃ n, lenB c = n := ⟨_, rfl⟩
  rw [hn]
  unfold lenB at hn
  rcases (show c ≤ 127 ∨ (128 ≤ c ∧ c ≤ 193) ∨ (194 ≤ c ∧ c ≤ 223) ∨ (224 ≤ c ∧ c ≤ 239) ∨ (240 ≤ c ∧ c ≤ 244) ∨ 245 ≤ c by omega) with h | h | h | h | h | h
  all_goals
    have e1 : (240 ≤ c) = (240 ≤ c) := rfl
    by_cases h1 : 240 ≤ c <;> by_cases h2 : c ≤ 244 <;> by_cases h3 : 224 ≤ c <;> by_cases h4 : c ≤ 239 <;> by_cases h5 : 194 ≤ c <;> by_cases h6 : c ≤ 223 <;> by_cases h7 : c ≤ 127 <;> first | (exfalso; omega) | skip
  all_goals
    simp only [h1, h2, h3, h4, h5, h6, h7, if_true, if_false, and_true, and_false, and_self] at hn
    subst hn
    clear h e1
    go_enter Tryz.func103, Tryz.ntmps103
    go_wp2_with fail
    go_ret
    exact ⟨rfl, rfl⟩
theorem continues_any (f i c : Nat) (w : World) (hi : 1 ≤ i) : Calls Tryz.prog 104 #[.int .u8 (f : Nat), .int .i64 (i : Nat), .int .u8 (c : Nat)] w fun e w' => e = .returned (.bool (contB f i c)) ∧ w = w' := by
  by_cases h1 : i = 1
  · subst h1
    by_cases f224 : f = 224
    · subst f224
      have d1 : ((160 : Int) ≤ (c : Nat)) = (160 ≤ c) := by rw [show (160 : Int) = ((160 : Nat) : Int) from rfl, Int.ofNat_le]
      have d2 : (((c : Nat) : Int) ≤ 191) = (c ≤ 191) := by rw [show (191 : Int) = ((191 : Nat) : Int) from rfl, Int.ofNat_le]
      by_cases h8 : 160 ≤ c <;> by_cases h9 : c ≤ 191
      all_goals
        go_enter Tryz.func104, Tryz.ntmps104
        go_wp2_with fail
        go_ret
        exact ⟨by simp [contB, lowB, highB, h8, h9], rfl⟩
    · have g224 : (((f : Nat) : Int) == 224) = false := by simp; omega
      by_cases f237 : f = 237
      · subst f237
        have d1 : ((128 : Int) ≤ (c : Nat)) = (128 ≤ c) := by rw [show (128 : Int) = ((128 : Nat) : Int) from rfl, Int.ofNat_le]
        have d2 : (((c : Nat) : Int) ≤ 159) = (c ≤ 159) := by rw [show (159 : Int) = ((159 : Nat) : Int) from rfl, Int.ofNat_le]
        by_cases h8 : 128 ≤ c <;> by_cases h9 : c ≤ 159
        all_goals
          go_enter Tryz.func104, Tryz.ntmps104
          go_wp2_with fail
          go_ret
          exact ⟨by simp [contB, lowB, highB, h8, h9], rfl⟩
      · have g237 : (((f : Nat) : Int) == 237) = false := by simp; omega
        by_cases f240 : f = 240
        · subst f240
          have d1 : ((144 : Int) ≤ (c : Nat)) = (144 ≤ c) := by rw [show (144 : Int) = ((144 : Nat) : Int) from rfl, Int.ofNat_le]
          have d2 : (((c : Nat) : Int) ≤ 191) = (c ≤ 191) := by rw [show (191 : Int) = ((191 : Nat) : Int) from rfl, Int.ofNat_le]
          by_cases h8 : 144 ≤ c <;> by_cases h9 : c ≤ 191
          all_goals
            go_enter Tryz.func104, Tryz.ntmps104
            go_wp2_with fail
            go_ret
            exact ⟨by simp [contB, lowB, highB, h8, h9], rfl⟩
        · have g240 : (((f : Nat) : Int) == 240) = false := by simp; omega
          by_cases f244 : f = 244
          · subst f244
            have d1 : ((128 : Int) ≤ (c : Nat)) = (128 ≤ c) := by rw [show (128 : Int) = ((128 : Nat) : Int) from rfl, Int.ofNat_le]
            have d2 : (((c : Nat) : Int) ≤ 143) = (c ≤ 143) := by rw [show (143 : Int) = ((143 : Nat) : Int) from rfl, Int.ofNat_le]
            by_cases h8 : 128 ≤ c <;> by_cases h9 : c ≤ 143
            all_goals
              go_enter Tryz.func104, Tryz.ntmps104
              go_wp2_with fail
              go_ret
              exact ⟨by simp [contB, lowB, highB, h8, h9], rfl⟩
          · have g244 : (((f : Nat) : Int) == 244) = false := by simp; omega
            have d1 : ((128 : Int) ≤ (c : Nat)) = (128 ≤ c) := by rw [show (128 : Int) = ((128 : Nat) : Int) from rfl, Int.ofNat_le]
            have d2 : (((c : Nat) : Int) ≤ 191) = (c ≤ 191) := by rw [show (191 : Int) = ((191 : Nat) : Int) from rfl, Int.ofNat_le]
            by_cases h8 : 128 ≤ c <;> by_cases h9 : c ≤ 191
            all_goals
              go_enter Tryz.func104, Tryz.ntmps104
              go_wp2_with fail
              go_ret
              exact ⟨by simp [contB, lowB, highB, h8, h9, f224, f237, f240, f244], rfl⟩
  · have h2 : (((i : Nat) : Int) == 1) = false := by simp; omega
    have d1 : ((128 : Int) ≤ (c : Nat)) = (128 ≤ c) := by rw [show (128 : Int) = ((128 : Nat) : Int) from rfl, Int.ofNat_le]
    have d2 : (((c : Nat) : Int) ≤ 191) = (c ≤ 191) := by rw [show (191 : Int) = ((191 : Nat) : Int) from rfl, Int.ofNat_le]
    by_cases h8 : 128 ≤ c <;> by_cases h9 : c ≤ 191
    all_goals
      go_enter Tryz.func104, Tryz.ntmps104
      go_wp2_with fail
      go_ret
      exact ⟨by simp [contB, lowB, highB, h8, h9, h1], rfl⟩
set_option maxRecDepth 20000 in
set_option maxHeartbeats 4000000 in
theorem measure_any (s : ByteArray) (w : World) : Calls Tryz.prog 89 #[.string s] w fun e w' => e = .returned (.tuple #[.int .i64 ((meas (nums s)).1 : Nat), .bool (meas (nums s)).2]) ∧ Below w.heap.size w w' := by
  have hM := Mem.start [] w
  cases hl : nums s with
  | nil =>
    have hs : s = ⟨#[]⟩ := nums_inj (by rw [hl]; rfl)
    subst hs
    go_enter Tryz.func89, Tryz.ntmps89
    go_wp2_with fail
    go_ret2
    exact ⟨rfl, hM.below⟩
  | cons b t =>
    have hsz : s.size = t.length + 1 := by rw [← nums_length, hl]; rfl
    have hse : s.toList.isEmpty = false := isEmpty_no (by omega)
    have hz0 : 0 < s.size := by omega
    have h0n : (nums s).getD 0 0 = b := by rw [hl]; rfl
    have h0 : (s[0]'hz0).toNat = b := by rw [← num_at s 0 hz0]; exact h0n
    have HL := Lib.hid (length_any b)
    have hlb := lenB_le b
    rw [meas_cons]
    by_cases hz : lenB b = 0
    · rw [if_pos hz]
      rw [hz] at HL
      go_enter Tryz.func89, Tryz.ntmps89
      go_wp2_with ((with_reducible refine (HL.out _).mono ?_); rintro e w1 ⟨rfl, rfl⟩)
      go_ret2
      exact ⟨rfl, hM.below⟩
    · rw [if_neg hz]
      obtain ⟨z, hzz⟩ : ∃ z, lenB b = z := ⟨_, rfl⟩
      rw [hzz] at HL hlb hz ⊢
      clear hzz
      obtain ⟨N, hN⟩ : ∃ N, mrun (b :: t) b (z - 1) 1 = N := ⟨_, rfl⟩
      rw [hN]
      have hN1 := mrun_le (b :: t) b (z - 1) 1
      rw [hN] at hN1
      have z1 : (z : Int) ≤ 4 := by omega
      have z2 : (1 : Int) ≤ (z : Int) := by omega
      have zb : (((z : Nat) : Int) == 0) = false := by simp; omega
      obtain ⟨m, hm⟩ : ∃ m, t.length + 1 = m := ⟨_, rfl⟩
      rw [hm] at hsz
      have HN := Lib.hid hN
      have HSZ := Lib.hid hsz
      have HLM := Lib.hid hl
      have HHM := Lib.hid hm
      clear hN hm hl
      go_enter Tryz.func89, Tryz.ntmps89
      go_wp2_with ((with_reducible refine (HL.out _).mono ?_); rintro e w1 ⟨rfl, rfl⟩)
      have M0 := Lib.hid hM
      clear hM
      go_loopw [2] (fun n wr => ∃ k : Nat, n = .int .i64 (k : Nat) ∧ Hid (1 ≤ k ∧ k ≤ z ∧ mrun (b :: t) b (z - k) k = N) ∧ Mem [] w [] [] wr) (fun n _ => z - (intOf n).toNat)
      case atStart => exact ⟨1, rfl, Lib.hid ⟨Nat.le_refl _, by omega, HN.out⟩, M0.out⟩
      case round =>
        clear M0
        obtain ⟨k, rfl, hk, hM⟩ := hrel
        obtain ⟨k1, k2, k3⟩ := hk.out
        have i1 : (1 : Int) ≤ (k : Int) := by omega
        have i2 : (k : Int) ≤ 4 := by omega
        by_cases hkz : k < z
        · have j1 : (k : Int) < (z : Int) := by omega
          have hs1 : z - k = (z - (k + 1)) + 1 := by omega
          rw [hs1] at k3
          unfold mrun at k3
          by_cases hkm : k < m
          · have j2 : (k : Int) < (m : Int) := by omega
            obtain ⟨c, hc⟩ : ∃ c, (nums s).getD k 0 = c := ⟨_, rfl⟩
            have hks : k < s.size := by have := HSZ.out; omega
            have hck : (s[k]'hks).toNat = c := by rw [← num_at s k hks]; exact hc
            have hlen : k < (b :: t).length := by have := HHM.out; simp only [List.length_cons]; omega
            have hc2 : (b :: t).getD k 0 = c := by rw [← HLM.out]; exact hc
            rw [hc2] at k3
            have HC := Lib.hid (fun w => continues_any b k c w k1)
            generalize hcb : contB b k c = cb at HC k3
            have K3 := Lib.hid k3
            have HLEN := Lib.hid hlen
            clear k3 hk hlen hc2 hcb
            cases cb with
            | true =>
              go_upto_region 5 with fail
              refine Go.Bul.wp_region_class (Mem [] w [] []) (by kernel_rfl) (by kernel_rfl) hM.drew ?_
              clear hM
              repeat ((with_reducible refine wpQuiet_step (fun K hK => ?_)); (first | ((first | ((with_reducible refine quiet_some ?_ ?_); (· rfl)) | ((with_reducible refine Go.Thg.quiet_wanted ?_ ?_); (· rfl))); apply Exists.intro; refine ⟨fun w' hM' => ?_, ?_⟩; (· first | exact gqx hz0 h0n rfl | exact gqx hks hc rfl | (go_simp; with_reducible refine at_calls ?_; exact quiet_mem_call_same hM' (HC.out _)) | (go_simp; rfl) | exact nqc hM' | exact nql hM' | exact nqp hM')) | ((with_reducible refine Go.Thg.quiet_unwanted ?_ ?_); (· rfl))); go_simp; (with_reducible refine hK _ ?_); clear hK K)
              refine wpQuiet_nil ?_
              intro wx hM
              go_wp2_with fail
              refine ⟨⟨k + 1, by go_num, Lib.hid ⟨by omega, by omega, ?_⟩, hM⟩, by simp [intOf]; omega⟩
              have := K3.out
              rw [if_pos ⟨HLEN.out, rfl⟩] at this
              exact this
            | false =>
              go_upto_region 5 with fail
              refine Go.Bul.wp_region_class (Mem [] w [] []) (by kernel_rfl) (by kernel_rfl) hM.drew ?_
              clear hM
              repeat ((with_reducible refine wpQuiet_step (fun K hK => ?_)); (first | ((first | ((with_reducible refine quiet_some ?_ ?_); (· rfl)) | ((with_reducible refine Go.Thg.quiet_wanted ?_ ?_); (· rfl))); apply Exists.intro; refine ⟨fun w' hM' => ?_, ?_⟩; (· first | exact gqx hz0 h0n rfl | exact gqx hks hc rfl | (go_simp; with_reducible refine at_calls ?_; exact quiet_mem_call_same hM' (HC.out _)) | (go_simp; rfl) | exact nqc hM' | exact nql hM' | exact nqp hM')) | ((with_reducible refine Go.Thg.quiet_unwanted ?_ ?_); (· rfl))); go_simp; (with_reducible refine hK _ ?_); clear hK K)
              refine wpQuiet_nil ?_
              intro wx hM
              have hkN : k = N := by
                have := K3.out
                rw [if_neg (by simp)] at this
                exact this
              subst hkN
              have hb : (((k : Nat) : Int) == ((z : Nat) : Int)) = (k == z) := by rw [Bool.eq_iff_iff]; simp; omega
              go_wp2_with fail
              go_ret2
              exact ⟨rfl, hM.below⟩
          · have j2 : ¬ (k : Int) < (m : Int) := by omega
            have hkN : k = N := by
              rw [if_neg (by have := HHM.out; simp only [List.length_cons]; omega)] at k3
              exact k3
            subst hkN
            have hb : (((k : Nat) : Int) == ((z : Nat) : Int)) = (k == z) := by rw [Bool.eq_iff_iff]; simp; omega
            clear k3 hk
            go_upto_region 5 with fail
            refine Go.Bul.wp_region_class (Mem [] w [] []) (by kernel_rfl) (by kernel_rfl) hM.drew ?_
            clear hM
            repeat ((with_reducible refine wpQuiet_step (fun K hK => ?_)); (first | ((first | ((with_reducible refine quiet_some ?_ ?_); (· rfl)) | ((with_reducible refine Go.Thg.quiet_wanted ?_ ?_); (· rfl))); apply Exists.intro; refine ⟨fun w' hM' => ?_, ?_⟩; (· first | fail | (go_simp; rfl) | exact nqc hM' | exact nql hM' | exact nqp hM')) | ((with_reducible refine Go.Thg.quiet_unwanted ?_ ?_); (· rfl))); go_simp; (with_reducible refine hK _ ?_); clear hK K)
            refine wpQuiet_nil ?_
            intro wx hM
            go_wp2_with fail
            go_ret2
            exact ⟨rfl, hM.below⟩
        · obtain rfl : k = z := by omega
          have hkN : k = N := by
            rw [Nat.sub_self] at k3
            exact k3
          subst hkN
          clear k3 hk
          go_upto_region 5 with fail
          refine Go.Bul.wp_region_class (Mem [] w [] []) (by kernel_rfl) (by kernel_rfl) hM.drew ?_
          clear hM
          repeat ((with_reducible refine wpQuiet_step (fun K hK => ?_)); (first | ((first | ((with_reducible refine quiet_some ?_ ?_); (· rfl)) | ((with_reducible refine Go.Thg.quiet_wanted ?_ ?_); (· rfl))); apply Exists.intro; refine ⟨fun w' hM' => ?_, ?_⟩; (· first | fail | (go_simp; rfl) | exact nqc hM' | exact nql hM' | exact nqp hM')) | ((with_reducible refine Go.Thg.quiet_unwanted ?_ ?_); (· rfl))); go_simp; (with_reducible refine hK _ ?_); clear hK K)
          refine wpQuiet_nil ?_
          intro wx hM
          go_wp2_with fail
          go_ret2
          exact ⟨by simp, hM.below⟩
end Go.Proofs.YtlidpdjainmaiaaGreatDoor
namespace Go.Cht
open Go
theorem i32_wrap {n : Int} (h0 : 0 ≤ n) (h1 : n < 2 ^ 31) : IntKind.i32.wrap n = n := by
  have h2 : n < 2147483648 := h1
  exact IntWalk.i32_in _ ⟨by omega, by omega⟩
theorem i32_and (a m k : Nat) (ha : a < 2 ^ 31) (hk : k ≤ 31) (hm : m = 2 ^ k - 1) : bits .and .i32 (a : Nat) (m : Nat) = ((a % 2 ^ k : Nat) : Int) := by
  have hp : 2 ^ k ≤ 2 ^ 31 := Nat.pow_le_pow_right (by decide) hk
  have h := (bits_nat .i32 31 (by decide) (fun n h0 h1 => i32_wrap h0 h1) a m ha (by omega)).1
  rw [h, hm, Nat.and_two_pow_sub_one_eq_mod]
theorem i32_or (x y : Nat) (hx : x < 2 ^ 25) (hy : y < 64) : bits .or .i32 ((x : Nat) * 64) (y : Nat) = ((x * 64 + y : Nat) : Int) := by
  have h := (bits_nat .i32 31 (by decide) (fun n h0 h1 => i32_wrap h0 h1) (x * 64) y (by omega) (by omega)).2
  rw [show ((x : Int) * 64) = ((x * 64 : Nat) : Int) by omega, h]
  have h2 := Nat.shiftLeft_add_eq_or_of_lt (a := x) (b := y) (i := 6) hy
  rw [Nat.shiftLeft_eq] at h2
  rw [← h2]
theorem w32 {n : Nat} (h : n < 2 ^ 25) : RowKit.wrap32 ((n : Int) * 64) = (n : Int) * 64 := by
  unfold RowKit.wrap32
  omega
end Go.Cht
namespace Go.Proofs.YtlidpdjainmaiaaGreatDoor
open Go Go.RowKit Go.Bul Go.Thg Go.Lin Go.Cht
set_option maxRecDepth 20000 in
set_option maxHeartbeats 4000000 in
theorem value_1 (s : ByteArray) (a : Nat) (w : World) (hl : nums s = [a]) (h1 : a ≤ 127) : Calls Tryz.prog 96 #[.string s] w fun e w' => e = .returned (.int .i32 ((a : Nat))) ∧ w = w' := by
  have hsz : s.size = 1 := by rw [← nums_length, hl]; rfl
  have p0 : 0 < s.size := by omega
  have g0 : (s[0]'p0).toNat = a := by rw [← num_at s 0 p0, hl]; rfl
  go_enter Tryz.func96, Tryz.ntmps96
  go_wp2_with fail
  refine wp_loop_rounds 1 ?_
  rw [rounds_succ]
  go_wp2_with fail
  go_ret
  exact ⟨rfl, rfl⟩
set_option maxRecDepth 20000 in
set_option maxHeartbeats 4000000 in
theorem value_2 (s : ByteArray) (a b : Nat) (w : World) (hl : nums s = [a, b]) (h1 : 194 ≤ a ∧ a ≤ 223) (h2 : 128 ≤ b ∧ b ≤ 191) : Calls Tryz.prog 96 #[.string s] w fun e w' => e = .returned (.int .i32 ((((a % 32) * 64 + b % 64) : Nat))) ∧ w = w' := by
  have hsz : s.size = 2 := by rw [← nums_length, hl]; rfl
  have p0 : 0 < s.size := by omega
  have g0 : (s[0]'p0).toNat = a := by rw [← num_at s 0 p0, hl]; rfl
  have p1 : 1 < s.size := by omega
  have g1 : (s[1]'p1).toNat = b := by rw [← num_at s 1 p1, hl]; rfl
  have e1 : bits .and .i32 (a : Nat) 31 = ((a % 32 : Nat) : Int) := i32_and a 31 5 (by omega) (by omega) rfl
  have x0 : a % 32 < 32 := Nat.mod_lt _ (by omega)
  generalize a % 32 = y0 at *
  have w0 := w32 (n := y0) (by omega)
  have o0 : bits .or .i32 (((y0 : Nat) : Int) * 64) ((b : Int) % 64) = (((y0 * 64 + b % 64 : Nat)) : Int) := by
    have := i32_or y0 (b % 64) (by omega) (by omega)
    rw [← this]
    congr 1
  obtain ⟨y1, hy1⟩ : ∃ y, y0 * 64 + b % 64 = y := ⟨_, rfl⟩
  have hz1 : y1 ≤ y0 * 64 + 63 := by omega
  rw [hy1] at o0 ⊢
  go_enter Tryz.func96, Tryz.ntmps96
  go_wp2_with fail
  refine wp_loop_rounds 2 ?_
  rw [rounds_succ]
  go_wp2_with fail
  rw [rounds_succ]
  go_wp2_with fail
  go_ret
  exact ⟨rfl, rfl⟩
set_option maxRecDepth 20000 in
set_option maxHeartbeats 4000000 in
theorem value_3 (s : ByteArray) (a b d : Nat) (w : World) (hl : nums s = [a, b, d]) (h1 : 224 ≤ a ∧ a ≤ 239) (h2 : 128 ≤ b ∧ b ≤ 191) (h3 : 128 ≤ d ∧ d ≤ 191) : Calls Tryz.prog 96 #[.string s] w fun e w' => e = .returned (.int .i32 (((((a % 16) * 64 + b % 64) * 64 + d % 64) : Nat))) ∧ w = w' := by
  have hsz : s.size = 3 := by rw [← nums_length, hl]; rfl
  have p0 : 0 < s.size := by omega
  have g0 : (s[0]'p0).toNat = a := by rw [← num_at s 0 p0, hl]; rfl
  have p1 : 1 < s.size := by omega
  have g1 : (s[1]'p1).toNat = b := by rw [← num_at s 1 p1, hl]; rfl
  have p2 : 2 < s.size := by omega
  have g2 : (s[2]'p2).toNat = d := by rw [← num_at s 2 p2, hl]; rfl
  have e1 : bits .and .i32 (a : Nat) 15 = ((a % 16 : Nat) : Int) := i32_and a 15 4 (by omega) (by omega) rfl
  have x0 : a % 16 < 16 := Nat.mod_lt _ (by omega)
  generalize a % 16 = y0 at *
  have w0 := w32 (n := y0) (by omega)
  have o0 : bits .or .i32 (((y0 : Nat) : Int) * 64) ((b : Int) % 64) = (((y0 * 64 + b % 64 : Nat)) : Int) := by
    have := i32_or y0 (b % 64) (by omega) (by omega)
    rw [← this]
    congr 1
  obtain ⟨y1, hy1⟩ : ∃ y, y0 * 64 + b % 64 = y := ⟨_, rfl⟩
  have hz1 : y1 ≤ y0 * 64 + 63 := by omega
  rw [hy1] at o0 ⊢
  have w1 := w32 (n := y1) (by omega)
  have o1 : bits .or .i32 (((y1 : Nat) : Int) * 64) ((d : Int) % 64) = (((y1 * 64 + d % 64 : Nat)) : Int) := by
    have := i32_or y1 (d % 64) (by omega) (by omega)
    rw [← this]
    congr 1
  obtain ⟨y2, hy2⟩ : ∃ y, y1 * 64 + d % 64 = y := ⟨_, rfl⟩
  have hz2 : y2 ≤ y1 * 64 + 63 := by omega
  rw [hy2] at o1 ⊢
  go_enter Tryz.func96, Tryz.ntmps96
  go_wp2_with fail
  refine wp_loop_rounds 3 ?_
  rw [rounds_succ]
  go_wp2_with fail
  rw [rounds_succ]
  go_wp2_with fail
  rw [rounds_succ]
  go_wp2_with fail
  go_ret
  exact ⟨rfl, rfl⟩
set_option maxRecDepth 20000 in
set_option maxHeartbeats 4000000 in
theorem value_4 (s : ByteArray) (a b d q : Nat) (w : World) (hl : nums s = [a, b, d, q]) (h1 : 240 ≤ a ∧ a ≤ 244) (h2 : 128 ≤ b ∧ b ≤ 191) (h3 : 128 ≤ d ∧ d ≤ 191) (h4 : 128 ≤ q ∧ q ≤ 191) : Calls Tryz.prog 96 #[.string s] w fun e w' => e = .returned (.int .i32 ((((((a % 8) * 64 + b % 64) * 64 + d % 64) * 64 + q % 64) : Nat))) ∧ w = w' := by
  have hsz : s.size = 4 := by rw [← nums_length, hl]; rfl
  have p0 : 0 < s.size := by omega
  have g0 : (s[0]'p0).toNat = a := by rw [← num_at s 0 p0, hl]; rfl
  have p1 : 1 < s.size := by omega
  have g1 : (s[1]'p1).toNat = b := by rw [← num_at s 1 p1, hl]; rfl
  have p2 : 2 < s.size := by omega
  have g2 : (s[2]'p2).toNat = d := by rw [← num_at s 2 p2, hl]; rfl
  have p3 : 3 < s.size := by omega
  have g3 : (s[3]'p3).toNat = q := by rw [← num_at s 3 p3, hl]; rfl
  have e1 : bits .and .i32 (a : Nat) 7 = ((a % 8 : Nat) : Int) := i32_and a 7 3 (by omega) (by omega) rfl
  have x0 : a % 8 < 8 := Nat.mod_lt _ (by omega)
  generalize a % 8 = y0 at *
  have w0 := w32 (n := y0) (by omega)
  have o0 : bits .or .i32 (((y0 : Nat) : Int) * 64) ((b : Int) % 64) = (((y0 * 64 + b % 64 : Nat)) : Int) := by
    have := i32_or y0 (b % 64) (by omega) (by omega)
    rw [← this]
    congr 1
  obtain ⟨y1, hy1⟩ : ∃ y, y0 * 64 + b % 64 = y := ⟨_, rfl⟩
  have hz1 : y1 ≤ y0 * 64 + 63 := by omega
  rw [hy1] at o0 ⊢
  have w1 := w32 (n := y1) (by omega)
  have o1 : bits .or .i32 (((y1 : Nat) : Int) * 64) ((d : Int) % 64) = (((y1 * 64 + d % 64 : Nat)) : Int) := by
    have := i32_or y1 (d % 64) (by omega) (by omega)
    rw [← this]
    congr 1
  obtain ⟨y2, hy2⟩ : ∃ y, y1 * 64 + d % 64 = y := ⟨_, rfl⟩
  have hz2 : y2 ≤ y1 * 64 + 63 := by omega
  rw [hy2] at o1 ⊢
  have w2 := w32 (n := y2) (by omega)
  have o2 : bits .or .i32 (((y2 : Nat) : Int) * 64) ((q : Int) % 64) = (((y2 * 64 + q % 64 : Nat)) : Int) := by
    have := i32_or y2 (q % 64) (by omega) (by omega)
    rw [← this]
    congr 1
  obtain ⟨y3, hy3⟩ : ∃ y, y2 * 64 + q % 64 = y := ⟨_, rfl⟩
  have hz3 : y3 ≤ y2 * 64 + 63 := by omega
  rw [hy3] at o2 ⊢
  go_enter Tryz.func96, Tryz.ntmps96
  go_wp2_with fail
  refine wp_loop_rounds 4 ?_
  rw [rounds_succ]
  go_wp2_with fail
  rw [rounds_succ]
  go_wp2_with fail
  rw [rounds_succ]
  go_wp2_with fail
  rw [rounds_succ]
  go_wp2_with fail
  go_ret
  exact ⟨rfl, rfl⟩
theorem value_any (s : ByteArray) (w : World) (hc : Cd (nums s)) : Calls Tryz.prog 96 #[.string s] w fun e w' => e = .returned (.int .i32 (valB (nums s) : Nat)) ∧ w = w' := by
  rcases hc.form with ⟨a, hl, h1, hv⟩ | ⟨a, b, hl, h1, h2, hv⟩ | ⟨a, b, d, hl, h1, h2, h3, _, _, hv⟩ | ⟨a, b, d, q, hl, h1, h2, h3, h4, _, _, hv⟩
  · rw [hv]; exact value_1 s a w hl h1
  · rw [hv]; exact value_2 s a b w hl h1 h2
  · rw [hv]; exact value_3 s a b d w hl h1 h2 h3
  · rw [hv]; exact value_4 s a b d q w hl h1 h2 h3 h4
end Go.Proofs.YtlidpdjainmaiaaGreatDoor
