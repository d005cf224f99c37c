/- The reference of base64: Value, inPlace. The reference of base64: Decode. -/
import Derived.Test.YtdnnjgjaffkdfaaDoorXf
namespace Go.Lin
open Go Go.Bul
def rvalI (c : Nat) : Int := match valN c with
  | some v => (v : Nat)
  | none => -1
/-- Whether the character at a position is an equals sign in place. -/
def inPl (t : List Nat) (k : Nat) : Bool := decide (t.length % 4 = 0) && decide (t.getD k 0 = 61) && (decide (k = t.length - 1) || decide (k = t.length - 2) && decide (t.getD (t.length - 1) 0 = 61))
theorem dataN_ge {t : List Nat} {k : Nat} (hk : k < t.length) (h : dataN t ≤ k) : t.getD k 0 = 61 := by
  unfold dataN at h
  split at h
  · omega
  · rename_i h0
    have h1 : t.getD (t.length - 1) 0 = 61 := Decidable.byContradiction fun hn => h0 (.inr (.inr hn))
    split at h
    · rename_i h2
      rcases (show k = t.length - 1 ∨ k = t.length - 2 by omega) with rfl | rfl
      · exact h1
      · exact h2
    · rw [show k = t.length - 1 by omega]
      exact h1
theorem inPl_data {t : List Nat} {k : Nat} (hk : k < t.length) (hv : valN (t.getD k 0) = none) : inPl t k = decide (dataN t ≤ k) := by
  by_cases h4 : t.length % 4 = 0
  · by_cases h1 : t.getD (t.length - 1) 0 = 61
    · by_cases h2 : t.getD (t.length - 2) 0 = 61
      · have hd : dataN t = t.length - 2 := by
          unfold dataN
          rw [if_neg (fun h => h.elim (fun h => by omega) fun h => h.elim (fun h => h h4) fun h => h h1), if_pos h2]
        rw [hd]
        by_cases hk2 : t.length - 2 ≤ k
        · have e : t.getD k 0 = 61 := by
            rcases (show k = t.length - 1 ∨ k = t.length - 2 by omega) with rfl | rfl
            · exact h1
            · exact h2
          rw [decide_eq_true hk2]
          unfold inPl
          simp only [h4, e, h1, decide_true, Bool.true_and, Bool.and_true, Bool.or_eq_true, decide_eq_true_eq]
          omega
        · rw [decide_eq_false hk2]
          unfold inPl
          rw [decide_eq_false (show ¬ (k = t.length - 1) by omega), decide_eq_false (show ¬ (k = t.length - 2) by omega)]
          simp
      · have hd : dataN t = t.length - 1 := by
          unfold dataN
          rw [if_neg (fun h => h.elim (fun h => by omega) fun h => h.elim (fun h => h h4) fun h => h h1), if_neg h2]
        rw [hd]
        by_cases hk1 : k = t.length - 1
        · rw [decide_eq_true (show t.length - 1 ≤ k by omega)]
          subst hk1
          unfold inPl
          rw [h1]
          simp [h4]
        · rw [decide_eq_false (show ¬ (t.length - 1 ≤ k) by omega)]
          unfold inPl
          rw [decide_eq_false hk1]
          by_cases hk2 : k = t.length - 2
          · subst hk2
            rw [decide_eq_false h2]
            simp
          · rw [decide_eq_false hk2]
            simp
    · have hd : dataN t = t.length := by
        unfold dataN
        rw [if_pos (.inr (.inr h1))]
      rw [hd, decide_eq_false (show ¬ (t.length ≤ k) by omega)]
      unfold inPl
      rw [decide_eq_false h1]
      by_cases hk1 : k = t.length - 1
      · subst hk1
        rw [decide_eq_false h1]
        simp
      · rw [decide_eq_false hk1]
        simp
  · have hd : dataN t = t.length := by
      unfold dataN
      rw [if_pos (.inr (.inl h4))]
    rw [hd, decide_eq_false (show ¬ (t.length ≤ k) by omega)]
    unfold inPl
    rw [decide_eq_false h4]
    simp
end Go.Lin
namespace Go.Proofs.YtdnnjgjaffkdfaaDoor
open Go Go.RowKit Go.Bul Go.Thg Go.Lin
abbrev alB : ByteArray := ⟨#[65, 66, 67, 68, 69, 70, 71, 72, 73, 74, 75, 76, 77, 78, 79, 80, 81, 82, 83, 84, 85, 86, 87, 88, 89, 90, 97, 98, 99, 100, 101, 102, 103, 104, 105, 106, 107, 108, 109, 110, 111, 112, 113, 114, 115, 116, 117, 118, 119, 120, 121, 122, 48, 49, 50, 51, 52, 53, 54, 55, 56, 57, 43, 47]⟩
theorem alB_nums : nums alB = alL := by decide +kernel
theorem alB_size : alB.size = 64 := rfl
theorem alB_at (k : Nat) : (nums alB).getD k 0 = alf k := by rw [alB_nums]; rfl
theorem liB {w : World} {ops : Array Oper} {rest : List Oper} {o : Oper} {a : Act} {Q : Exit → Act → World → Prop} {y : Operand} (k : Nat) (hk : k < 64) (h : wpList Tryd.prog ops Q rest (a.put o.dst (.int .u8 (alf k : Nat))) w) (hgd : o.guard = none := by rfl) (ho : o.op = .index 9 (.const (.string alB)) y := by rfl) (hy : a.eval y = .int .i64 (k : Nat) := by rfl) : wpList Tryd.prog ops Q (o :: rest) a w :=
  lis k (alf k) rfl (by rw [alB_size]; exact hk) (alB_at k) h hgd ho rfl hy
set_option maxRecDepth 20000 in
set_option maxHeartbeats 1000000 in
theorem rletv_any (c : Nat) (w : World) (hc : c < 256) : Calls Tryd.prog 96 #[.int .u8 (c : Nat)] w fun e w' => e = .returned (.int .i64 (rvalI c)) ∧ w = w' := by
  go_enter Tryd.func96, Tryd.ntmps96
  go_wp2_with fail
  go_loop [3] (fun i => ∃ k : Nat, k ≤ 64 ∧ i = .int .i64 (k : Nat) ∧ ∀ j, j < k → alf j ≠ c) (fun i => 64 - (intOf i).toNat)
  case atStart => exact ⟨0, by omega, rfl, fun j hj => by omega⟩
  case round =>
    obtain ⟨k, hk, rfl, hall⟩ := hrel
    have HA := Lib.hid hall
    have q0 : (0 : Int) ≤ (k : Int) := Int.natCast_nonneg _
    clear hall
    by_cases hlt : k < 64
    · have q1 : (k : Int) < 64 := by omega
      by_cases he : alf k = c
      · have t1 : ((alf k : Int) == (c : Int)) = true := by rw [he]; simp
        have hr : Hid (rvalI c = (k : Nat)) := Lib.hid (by unfold rvalI; rw [← he, valN_alf hlt])
        clear he
        go_wp2_with ((with_reducible refine at_ix ?_); refine liB k hlt ?_)
        go_ret
        exact ⟨by rw [hr.out]; rfl, rfl⟩
      · have t1 : ((alf k : Int) == (c : Int)) = false := beq_false_of_ne (by omega)
        have he2 := Lib.hid he
        clear he
        go_wp2_with ((with_reducible refine at_ix ?_); refine liB k hlt ?_)
        refine ⟨⟨k + 1, by omega, by go_num, fun j hj => ?_⟩, by simp [intOf]; omega⟩
        rcases (show j < k ∨ j = k by omega) with h | h
        · exact HA.out j h
        · rw [h]; exact he2.out
    · obtain rfl : k = 64 := by omega
      have hr : Hid (rvalI c = -1) := Lib.hid (by
        unfold rvalI
        cases hv : valN c with
        | none => rfl
        | some v =>
          obtain ⟨h1, h2⟩ := valN_lt hc hv
          exact absurd h2 (HA.out v h1))
      go_wp2_with fail
      go_ret
      exact ⟨by rw [hr.out]; rfl, rfl⟩
set_option maxRecDepth 20000 in
set_option maxHeartbeats 2000000 in
theorem rplace_any (s : ByteArray) (k : Nat) (w : World) (hs : s.size ≤ 100000) (hk : k < s.size) : Calls Tryd.prog 97 #[.string s, .int .i64 (k : Nat)] w fun e w' => e = .returned (.bool (inPl (nums s) k)) ∧ w = w' := by
  have hl := nums_length s
  have hi : inPl (nums s) k = (decide (s.size % 4 = 0) && decide ((nums s).getD k 0 = 61) && (decide (k = s.size - 1) || decide (k = s.size - 2) && decide ((nums s).getD (s.size - 1) 0 = 61))) := by unfold inPl; rw [hl]
  rw [hi]
  clear hi hl
  have HK := Lib.hid hk
  obtain ⟨c, hc⟩ : ∃ c, (nums s).getD k 0 = c := ⟨_, rfl⟩
  obtain ⟨k1, hk1⟩ : ∃ k1, k1 = s.size - 1 := ⟨_, rfl⟩
  obtain ⟨c1, hc1⟩ : ∃ c1, (nums s).getD k1 0 = c1 := ⟨_, rfl⟩
  have HC := Lib.hid hc
  have HC1 := Lib.hid hc1
  have HW1 := Lib.hid (show wrap64 ((s.size : Int) - 1) = (k1 : Nat) by unfold wrap64; omega)
  have HK1 := Lib.hid (show k1 < s.size by omega)
  rw [← hk1, hc, hc1]
  have p1 : wrap64 ((s.size : Int) - 1) = (s.size : Int) - 1 := by unfold wrap64; omega
  have p2 : wrap64 ((s.size : Int) - 2) = (s.size : Int) - 2 := by unfold wrap64; omega
  by_cases h4 : s.size % 4 = 0
  · have q4 : (s.size : Int) % 4 = 0 := by omega
    rw [decide_eq_true h4]
    by_cases h6 : c = 61
    · have t1 : ((c : Int) != 61) = false := by rw [h6]; rfl
      rw [decide_eq_true h6]
      clear hc hc1 h6
      by_cases e1 : k = k1
      · have t2 : ((k : Int) == (s.size : Int) - 1) = true := by simp; omega
        rw [decide_eq_true e1]
        clear e1 hk1 hk hs h4
        go_enter Tryd.func97, Tryd.ntmps97
        go_wp2_with (first | ((first | with_reducible refine at_ix ?_ | ((with_reducible refine at_ix_g ?_ ?_); (· rfl))); first | refine lis k c rfl HK.out HC.out ?_ | refine lis k1 c1 HW1.out HK1.out HC1.out ?_))
        go_ret
        exact ⟨rfl, rfl⟩
      · have t2 : ((k : Int) == (s.size : Int) - 1) = false := beq_false_of_ne (by omega)
        rw [decide_eq_false e1]
        by_cases e2 : k = s.size - 2
        · have t3 : ((k : Int) == (s.size : Int) - 2) = true := by simp; omega
          rw [decide_eq_true e2]
          by_cases h7 : c1 = 61
          · have t4 : ((c1 : Int) == 61) = true := by rw [h7]; rfl
            rw [decide_eq_true h7]
            clear e1 e2 hk1 hk hs h4 h7
            go_enter Tryd.func97, Tryd.ntmps97
            go_wp2_with (first | ((first | with_reducible refine at_ix ?_ | ((with_reducible refine at_ix_g ?_ ?_); (· rfl))); first | refine lis k c rfl HK.out HC.out ?_ | refine lis k1 c1 HW1.out HK1.out HC1.out ?_))
            go_ret
            exact ⟨rfl, rfl⟩
          · have t4 : ((c1 : Int) == 61) = false := beq_false_of_ne (by omega)
            rw [decide_eq_false h7]
            clear e1 e2 hk1 hk hs h4 h7
            go_enter Tryd.func97, Tryd.ntmps97
            go_wp2_with (first | ((first | with_reducible refine at_ix ?_ | ((with_reducible refine at_ix_g ?_ ?_); (· rfl))); first | refine lis k c rfl HK.out HC.out ?_ | refine lis k1 c1 HW1.out HK1.out HC1.out ?_))
            go_ret
            exact ⟨rfl, rfl⟩
        · have t3 : ((k : Int) == (s.size : Int) - 2) = false := beq_false_of_ne (by omega)
          rw [decide_eq_false e2]
          clear e1 e2 hk1 hk hs h4
          go_enter Tryd.func97, Tryd.ntmps97
          go_wp2_with (first | ((first | with_reducible refine at_ix ?_ | ((with_reducible refine at_ix_g ?_ ?_); (· rfl))); first | refine lis k c rfl HK.out HC.out ?_ | refine lis k1 c1 HW1.out HK1.out HC1.out ?_))
          go_ret
          exact ⟨rfl, rfl⟩
    · have t1 : ((c : Int) != 61) = true := by simp; omega
      rw [decide_eq_false h6]
      clear hc hc1 h6 hk1 hk hs h4
      go_enter Tryd.func97, Tryd.ntmps97
      go_wp2_with (first | ((first | with_reducible refine at_ix ?_ | ((with_reducible refine at_ix_g ?_ ?_); (· rfl))); first | refine lis k c rfl HK.out HC.out ?_ | refine lis k1 c1 HW1.out HK1.out HC1.out ?_))
      go_ret
      exact ⟨rfl, rfl⟩
  · have q4 : ¬ ((s.size : Int) % 4 = 0) := by omega
    rw [decide_eq_false h4]
    clear hc hc1 hk1 hk hs h4
    go_enter Tryd.func97, Tryd.ntmps97
    go_wp2_with (first | ((first | with_reducible refine at_ix ?_ | ((with_reducible refine at_ix_g ?_ ?_); (· rfl))); first | refine lis k c rfl HK.out HC.out ?_ | refine lis k1 c1 HW1.out HK1.out HC1.out ?_))
    go_ret
    exact ⟨rfl, rfl⟩
end Go.Proofs.YtdnnjgjaffkdfaaDoor
namespace Go.Lin
open Go Go.Bul
/-- What the reference has after j bits of a group. -/
def bitS (b c v j : Nat) : List Nat × Nat × Nat := if c + j < 8 then ([], b * 2 ^ j + v / 2 ^ (6 - j), c + j) else ([(b * 64 + v) / 2 ^ (c - 2)], v % 2 ^ (c - 2) / 2 ^ (6 - j), c + j - 8)
theorem bitS_0 {b c v : Nat} (hv : v < 64) (hc : c < 8) : bitS b c v 0 = ([], b, c) := by
  unfold bitS
  rw [if_pos (by omega)]
  simp only [Nat.pow_zero, Nat.mul_one, Nat.sub_zero, Nat.reducePow, Nat.add_zero]
  rw [show v / 64 = 0 by omega, Nat.add_zero]
theorem bitS_6 {b c v : Nat} (hc : c < 7) (h2 : c % 2 = 0) : bitS b c v 6 = (emit8 (b * 64 + v) (c + 6), rem8 (b * 64 + v) (c + 6)) := by
  have : c = 0 ∨ c = 2 ∨ c = 4 ∨ c = 6 := by omega
  rcases this with rfl | rfl | rfl | rfl
  · simp [bitS, emit8, rem8]
  · simp [bitS, emit8, rem8, Nat.mod_one]
  · simp only [bitS, emit8, rem8, Nat.reduceAdd, Nat.reduceLT, if_false, Nat.reduceSub, Nat.reducePow, Nat.reduceLeDiff, if_true, Nat.div_one]
    rw [show (b * 64 + v) % 4 = v % 4 by omega]
  · simp only [bitS, emit8, rem8, Nat.reduceAdd, Nat.reduceLT, if_false, Nat.reduceSub, Nat.reducePow, Nat.reduceLeDiff, if_true, Nat.div_one]
    rw [show (b * 64 + v) % 16 = v % 16 by omega]
theorem bitS_step {b c v j : Nat} (hv : v < 64) (hc : c < 7) (h2 : c % 2 = 0) (hj : j < 6) : bitS b c v (j + 1) = if (bitS b c v j).2.2 + 1 = 8 then ((bitS b c v j).1 ++ [2 * (bitS b c v j).2.1 + v / 2 ^ (5 - j) % 2], 0, 0) else ((bitS b c v j).1, 2 * (bitS b c v j).2.1 + v / 2 ^ (5 - j) % 2, (bitS b c v j).2.2 + 1) := by
  have e1 : c = 0 ∨ c = 2 ∨ c = 4 ∨ c = 6 := by omega
  have e2 : j = 0 ∨ j = 1 ∨ j = 2 ∨ j = 3 ∨ j = 4 ∨ j = 5 := by omega
  rcases e1 with rfl | rfl | rfl | rfl <;> rcases e2 with rfl | rfl | rfl | rfl | rfl | rfl <;>
    (simp only [bitS, Nat.reduceAdd, Nat.reduceLT, if_true, if_false, Nat.reduceSub, Nat.reducePow, Nat.reduceEqDiff, List.nil_append, Prod.mk.injEq, List.cons.injEq, and_true, true_and, Nat.mod_one, Nat.zero_div]; try omega)
theorem bitS_lt {b c v j : Nat} (hv : v < 64) (hb : b < 2 ^ c) (hc : c < 7) (h2 : c % 2 = 0) (hj : j < 6) : (bitS b c v j).2.1 < 128 ∧ (bitS b c v j).2.2 < 8 ∧ (bitS b c v j).1.length ≤ 1 := by
  refine ⟨?_, ?_, ?_⟩
  · have e1 : c = 0 ∨ c = 2 ∨ c = 4 ∨ c = 6 := by omega
    have e2 : j = 0 ∨ j = 1 ∨ j = 2 ∨ j = 3 ∨ j = 4 ∨ j = 5 := by omega
    rcases e1 with rfl | rfl | rfl | rfl <;> rcases e2 with rfl | rfl | rfl | rfl | rfl | rfl <;>
      (simp only [bitS, Nat.reduceAdd, Nat.reduceLT, if_true, if_false, Nat.reduceSub, Nat.reducePow] at hb ⊢; omega)
  · unfold bitS
    split
    · assumption
    · simp only; omega
  · unfold bitS
    split <;> simp
theorem decK_skip {t : List Nat} {k : Nat} (hv : valN (t.getD k 0) = none) (hk : k < t.length) : decK t (k + 1) = decK t k := by
  unfold decK
  have h : t.take (k + 1) = t.take k ++ [t.getD k 0] := by
    rw [List.take_add_one, List.getD_eq_getElem?_getD, List.getElem?_eq_getElem hk]
    rfl
  rw [h, List.filterMap_append, List.filterMap_cons_none hv, List.filterMap_nil, List.append_nil]
theorem decK_past {t : List Nat} : ∀ (m : Nat), dataN t + m ≤ t.length → decK t (dataN t + m) = decK t (dataN t)
  | 0, _ => rfl
  | m + 1, h => by
    rw [← Nat.add_assoc, decK_skip (by rw [dataN_ge (by omega) (by omega)]; exact valN_eq) (by omega), decK_past m (by omega)]
theorem decK_len (t : List Nat) : decK t t.length = decK t (dataN t) := by
  have h := dataN_le t
  have := decK_past (t := t) (t.length - dataN t) (by omega)
  rwa [show dataN t + (t.length - dataN t) = t.length by omega] at this
theorem decK_even {t : List Nat} (hB : Bytes t) (k : Nat) : (decK t k).2.2 % 2 = 0 :=
  (decS_ok ((t.take k).filterMap valN) 0 0 (by decide) (by decide) (filterMap_lt fun x hx => hB x (List.take_subset _ _ hx)) rfl).2.2.1
theorem and_one' : ∀ x : Fin 64, bits BinOp.and IntKind.i64 (x.val : Int) 1 = ((x.val % 2 : Nat) : Int) := by decide +kernel
theorem and_one {x : Nat} (h : x < 64) : bits BinOp.and IntKind.i64 (x : Int) 1 = ((x % 2 : Nat) : Int) := and_one' ⟨x, h⟩
end Go.Lin
namespace Go.Proofs.YtdnnjgjaffkdfaaDoor
open Go Go.RowKit Go.Bul Go.Thg Go.Lin
set_option maxRecDepth 20000 in
set_option maxHeartbeats 4000000 in
theorem rDecode_any (s : ByteArray) (w : World) (hs : s.size ≤ 90000) :
    Calls Tryd.prog 74 #[.string s] w fun e w' => ∃ A n c off, e = .returned (.tuple #[.slice A n c, .int .i64 off, .int .i64 (decE (nums s) : Nat)]) ∧ Becomes [] w (bT (.slice A n c) (decB (nums s))) w' := by
  have hM := Mem.start [] w
  have hB := bytes_of_nums s
  have hl := nums_length s
  have hdl := dataN_le (nums s)
  have HBY := Lib.hid (fun (k : Nat) (hk : k < s.size) => show (nums s).getD k 0 < 256 by rw [List.getD_eq_getElem?_getD, List.getElem?_eq_getElem (by omega)]; exact hB _ (List.getElem_mem _))
  have HST := Lib.hid (fun (k c v : Nat) (hk : k < s.size) (hc : (nums s).getD k 0 = c) (hv : valN c = some v) => decK_step (t := nums s) (by omega) hc hv)
  have HSK := Lib.hid (fun (k c : Nat) (hk : k < s.size) (hc : (nums s).getD k 0 = c) (hv : valN c = none) => decK_skip (t := nums s) (k := k) (by rw [hc]; exact hv) (by omega))
  have HOK := Lib.hid (fun (k : Nat) => decK_ok hB k)
  have HEV := Lib.hid (fun (k : Nat) => decK_even hB k)
  have HLEN := Lib.hid (decK_len (nums s))
  have HBAD := Lib.hid (fun (k c : Nat) (hk : k < dataN (nums s)) (hc : (nums s).getD k 0 = c) (hv : valN c = none) => decE_bad hk hc hv)
  have HGOOD := Lib.hid (fun (h : ∀ j, j < dataN (nums s) → valN ((nums s).getD j 0) ≠ none) => decE_good h)
  have HNO := Lib.hid (fun (h : decE (nums s) ≠ 0) => decB_no h)
  have HYES := Lib.hid (fun (h : decE (nums s) = 0) => decB_yes h)
  have HPL := Lib.hid (fun (k c : Nat) (w : World) (hk : k < s.size) (hc : (nums s).getD k 0 = c) (hv : valN c = none) => show Calls _ _ _ _ fun e w' => e = .returned (.bool (decide (dataN (nums s) ≤ k))) ∧ w = w' by
    rw [← inPl_data (t := nums s) (k := k) (by omega) (by rw [hc]; exact hv)]
    exact rplace_any s k w (by omega) hk)
  have HK0 : decK (nums s) 0 = ([], 0, 0) := rfl
  rw [hl] at HGOOD hdl HLEN
  generalize decE (nums s) = er at HBAD HGOOD HNO HYES ⊢
  generalize decB (nums s) = bs at HNO HYES ⊢
  generalize dataN (nums s) = n at hdl HBAD HGOOD HYES HPL HLEN
  generalize decK (nums s) = dk at HST HSK HOK HEV HLEN HGOOD HYES HK0
  generalize hts : nums s = ts at HBY HST HSK HBAD HGOOD HPL
  replace hts := Lib.hid hts
  have hsz : (s.size : Int) ≤ 90000 := by omega
  replace hdl := Lib.hid hdl
  replace hs := Lib.hid hs
  clear hB hl
  go_enter Tryd.func74, Tryd.ntmps74
  go_wp2_with fail
  have M0 := Lib.hid (hM.newThing (nil_becomes (Below.refl _ _)))
  clear hM
  go_loopw [5, 6, 7, 8, 9] (fun o v h l i wr => ∃ (k : Nat) (E : Option Addr) (m e2 : Nat) (z : Int), k ≤ s.size ∧ i = .int .i64 (k : Nat) ∧ l = .int .i64 z ∧ o = .slice E m e2 ∧ v = .int .i64 ((dk k).2.1 : Nat) ∧ h = .int .i64 ((dk k).2.2 : Nat) ∧ (∀ j, j < k → j < n → valN (ts.getD j 0) ≠ none) ∧ Mem [] w [] [bT (.slice E m e2) (dk k).1] wr) (fun _ _ _ _ i _ => s.size - (intOf i).toNat)
  case atStart => exact ⟨0, none, 0, 0, 0, by omega, rfl, rfl, rfl, by rw [HK0]; rfl, by rw [HK0]; rfl, fun j hj => by omega, by rw [HK0]; exact M0.out⟩
  case round =>
    clear M0
    obtain ⟨k, E1, m1, e1, z1, hk, rfl, rfl, rfl, rfl, rfl, hall, hM⟩ := hrel
    replace hall := Lib.hid hall
    have k0 : (0 : Int) ≤ (k : Int) := Int.natCast_nonneg _
    by_cases hlt : k < s.size
    · have k1 : (k : Int) < (s.size : Int) := by omega
      obtain ⟨c, hc⟩ : ∃ c, ts.getD k 0 = c := ⟨_, rfl⟩
      have hc9 : c < 256 := by rw [← hc]; exact HBY.out k hlt
      replace hc := Lib.hid hc
      have HVA := Lib.hid (fun w => rletv_any c w hc9)
      cases hv : valN c with
      | none =>
        have hrv : rvalI c = -1 := by unfold rvalI; rw [hv]
        rw [hrv] at HVA
        have HPLK := Lib.hid (fun w => HPL.out k c w hlt hc.out hv)
        have hsk := Lib.hid (HSK.out k c hlt hc.out hv)
        by_cases hD : n ≤ k
        · rw [decide_eq_true hD] at HPLK
          clear HNO HYES HGOOD HBAD HST HOK HK0 HEV HLEN HPL hrv
          go_wp2_with (first | ((with_reducible refine at_ix ?_); refine lis k c rfl hlt (by rw [hts.out]; exact hc.out) ?_) | ((with_reducible refine (HVA.out _).mono ?_); rintro e w1 ⟨rfl, rfl⟩) | ((with_reducible refine (HPLK.out _).mono ?_); rintro e w1 ⟨rfl, rfl⟩))
          refine ⟨⟨k + 1, E1, m1, e1, z1, by omega, by go_num, rfl, rfl, by rw [hsk.out], by rw [hsk.out], fun j hj hjn => hall.out j (by omega) hjn, by rw [hsk.out]; exact hM⟩, by simp [intOf]; omega⟩
        · rw [decide_eq_false hD] at HPLK
          have he := Lib.hid (HBAD.out k c (by omega) hc.out hv)
          have hno := Lib.hid (HNO.out (by rw [he.out]; decide))
          clear HNO HYES HGOOD HBAD HST HOK HK0 HEV HLEN HPL hrv
          go_wp2_with (first | ((with_reducible refine at_ix ?_); refine lis k c rfl hlt (by rw [hts.out]; exact hc.out) ?_) | ((with_reducible refine (HVA.out _).mono ?_); rintro e w1 ⟨rfl, rfl⟩) | ((with_reducible refine (HPLK.out _).mono ?_); rintro e w1 ⟨rfl, rfl⟩))
          refine bodyPost_ret (results_tmp3 rfl _ _ _) rfl ?_
          exact ⟨none, 0, 0, _, by rw [he.out]; rfl, by rw [hno.out]; exact nil_becomes hM.below⟩
      | some v =>
        have hrv : rvalI c = (v : Nat) := by unfold rvalI; rw [hv]
        rw [hrv] at HVA
        have hv9 := (valN_lt hc9 hv).1
        have v0 : (0 : Int) ≤ (v : Int) := Int.natCast_nonneg _
        have v1 : (v : Int) < 64 := by omega
        have v2 : ¬ ((v : Int) < 0) := by omega
        have hst := HST.out k c v hlt hc.out hv
        obtain ⟨o1, o2, o3, _⟩ := HOK.out k
        have o4 := HEV.out k
        have hne := Lib.hid (show valN (ts.getD k 0) ≠ none by rw [hc.out, hv]; exact fun h => nomatch h)
        generalize dk k = S1 at hst o1 o2 o3 o4 hM
        obtain ⟨ob, vb, vc⟩ := S1
        simp only at hst o1 o2 o3 o4 hM
        have o5 := Lib.hid (show ob.length ≤ 90000 by omega)
        have HB0 := bitS_0 (b := vb) (c := vc) hv9 (by omega)
        have HS6 := Lib.hid (show dk (k + 1) = (ob ++ (bitS vb vc v 6).1, (bitS vb vc v 6).2) by rw [hst, bitS_6 o2 o4])
        have HBS := Lib.hid (fun (j : Nat) (hj : j < 6) => bitS_step (b := vb) hv9 o2 o4 hj)
        have HBL := Lib.hid (fun (j : Nat) (hj : j < 6) => bitS_lt hv9 o1 o2 o4 hj)
        generalize bitS vb vc v = bf at HB0 HS6 HBS HBL
        have HAND := Lib.hid (fun (j : Nat) => and_one (x := v / 2 ^ j) (Nat.lt_of_le_of_lt (Nat.div_le_self _ _) hv9))
        have hD := Lib.hid (show n ≤ s.size from hdl.out)
        clear HNO HYES HGOOD HBAD HST HOK HK0 HEV HLEN HPL hrv HSK hst o1 o2 o3 o4 hv hv9
        go_wp2_with (first | ((with_reducible refine at_ix ?_); refine lis k c rfl hlt (by rw [hts.out]; exact hc.out) ?_) | ((with_reducible refine (HVA.out _).mono ?_); rintro e w1 ⟨rfl, rfl⟩))
        have M1 := Lib.hid hM
        clear hM
        go_loopw [5, 6, 7, 11] (fun o v h i wq => ∃ (j : Nat) (E : Option Addr) (m e2 : Nat), j ≤ 6 ∧ i = .int .i64 (5 - (j : Int)) ∧ o = .slice E m e2 ∧ v = .int .i64 ((bf j).2.1 : Nat) ∧ h = .int .i64 ((bf j).2.2 : Nat) ∧ Mem [] w [] [bT (.slice E m e2) (ob ++ (bf j).1)] wq) (fun _ _ _ i _ => (1 + intOf i).toNat)
        case atStart => exact ⟨0, E1, m1, e1, by omega, rfl, rfl, by rw [HB0], by rw [HB0], by rw [HB0, List.append_nil]; exact M1.out⟩
        case round =>
          clear M1
          obtain ⟨j, E2, m2, e2, hj, rfl, rfl, rfl, rfl, hM⟩ := hrel
          by_cases hjl : j < 6
          · obtain ⟨kk, hkk⟩ : ∃ kk : Nat, kk = 5 - j := ⟨_, rfl⟩
            have e5 : (5 : Int) - (j : Int) = (kk : Nat) := by omega
            have hbs := HBS.out j hjl
            obtain ⟨l1, l2, l3⟩ := HBL.out j hjl
            have han := HAND.out kk
            rw [← hkk] at hbs
            rw [e5]
            have g0 : (0 : Int) ≤ (kk : Int) := Int.natCast_nonneg _
            have g1 : (kk : Int) ≤ 5 := by omega
            generalize bf j = S2 at hbs l1 l2 l3 hM
            obtain ⟨ol, vl, hl2⟩ := S2
            simp only at hbs l1 l2 l3 hM
            obtain ⟨bit, hbit⟩ : ∃ bit, bit = v / 2 ^ kk % 2 := ⟨_, rfl⟩
            have hb2 : bit < 2 := by omega
            rw [← hbit] at hbs han
            rw [show ((v / 2 ^ kk : Nat) : Int) = (v : Int) / 2 ^ kk by rw [Int.natCast_ediv]; simp] at han
            obtain ⟨nv, hnv⟩ : ∃ nv, nv = 2 * vl + bit := ⟨_, rfl⟩
            rw [← hnv] at hbs
            have env : 2 * (vl : Int) + (bit : Int) = (nv : Int) := by omega
            have nv0 : (0 : Int) ≤ (nv : Int) := Int.natCast_nonneg _
            have nv9 : (nv : Int) < 256 := by omega
            have vl0 : (0 : Int) ≤ (vl : Int) := Int.natCast_nonneg _
            have vl9 : (vl : Int) < 128 := by omega
            have bt0 : (0 : Int) ≤ (bit : Int) := Int.natCast_nonneg _
            have bt9 : (bit : Int) < 2 := by omega
            have hh0 : (0 : Int) ≤ (hl2 : Int) := Int.natCast_nonneg _
            have hh9 : (hl2 : Int) < 8 := by omega
            by_cases h8 : hl2 + 1 = 8
            · rw [if_pos h8] at hbs
              have p8 : (hl2 : Int) + 1 = 8 := by omega
              have h63 := Lib.hid (show (ob ++ ol).length + [nv].length ≤ 1000000000 by have := o5.out; simp only [List.length_append, List.length_singleton]; omega)
              replace hbs := Lib.hid hbs
              clear hbit h8 hkk hnv l1 l2 l3 hb2
              go_wp2_with (first | (refine lbb1 hM ?_; clear hM; intro g4 wu hM) | ((with_reducible refine at_append ?_); refine la (src_byte1 hM (List.Mem.head _)) hM h63.out ?_; clear hM; intro A4 N4 c4 wv hN4 hM))
              exact ⟨⟨j + 1, A4, N4, c4, by omega, by congr 1; omega, rfl, by rw [hbs.out]; rfl, by rw [hbs.out]; rfl, by rw [hbs.out]; simpa only [List.append_assoc] using hM.subL (List.nil_sublist _)⟩, by simp [intOf]; omega⟩
            · rw [if_neg h8] at hbs
              have p8 : ¬ ((hl2 : Int) + 1 = 8) := by omega
              replace hbs := Lib.hid hbs
              clear hbit h8 hkk hnv l1 l2 l3 hb2
              go_wp2_with fail
              exact ⟨⟨j + 1, E2, m2, e2, by omega, by congr 1; omega, rfl, by rw [hbs.out], by rw [hbs.out]; rfl, by rw [hbs.out]; exact hM⟩, by simp [intOf]; omega⟩
          · have hj6 : j = 6 := by omega
            obtain ⟨zz, hzz⟩ : ∃ zz : Int, zz = 5 - (j : Int) := ⟨_, rfl⟩
            rw [← hzz, hj6]
            rw [hj6] at hM
            have z9 : ¬ (0 ≤ zz) := by omega
            have hs6 := HS6.out
            generalize bf 6 = S6 at hs6 hM
            obtain ⟨ol, vl, hl2⟩ := S6
            simp only at hs6 hM
            replace hs6 := Lib.hid hs6
            clear hzz hj6 hj hjl HB0 HS6 HBS HBL HAND
            go_wp2_with fail
            refine ⟨⟨k + 1, E2, m2, e2, _, by omega, by go_num, rfl, rfl, by rw [hs6.out], by rw [hs6.out], fun j hj hjn => ?_, by rw [hs6.out]; exact hM⟩, by simp [intOf]; omega⟩
            rcases (show j < k ∨ j = k by omega) with h | h
            · exact hall.out j h hjn
            · rw [h]; exact hne.out
    · obtain rfl : k = s.size := by omega
      have hg := HGOOD.out (fun j hj => hall.out j (by have := hdl.out; omega) hj)
      have hle := HLEN.out
      rw [← hle] at hg
      have HY2 : Hid (er = 0 → bs = (dk s.size).1) := Lib.hid (fun h => by rw [hle]; exact HYES.out h)
      generalize dk s.size = S1 at hg hM HY2
      obtain ⟨ob, vb, vc⟩ := S1
      simp only at hg hM HY2
      by_cases h4 : s.size % 4 ≠ 0
      · rw [if_pos h4] at hg
        have hno := Lib.hid (HNO.out (by rw [hg]; decide))
        have q4 : ¬ ((s.size : Int) % 4 = 0) := by omega
        replace hg := Lib.hid hg
        clear HNO HYES HGOOD HBAD HST HOK HK0 HEV HLEN HPL HSK h4 hle HY2
        go_wp2_with fail
        refine bodyPost_ret (results_tmp3 rfl _ _ _) rfl ?_
        exact ⟨none, 0, 0, _, by rw [hg.out]; rfl, by rw [hno.out]; exact nil_becomes hM.below⟩
      · rw [if_neg h4] at hg
        have q4 : ((s.size : Int) % 4 = 0) := by omega
        by_cases hz : vb ≠ 0
        · rw [if_pos hz] at hg
          have hno := Lib.hid (HNO.out (by rw [hg]; decide))
          have q6 : ¬ ((vb : Int) = 0) := by omega
          replace hg := Lib.hid hg
          clear HNO HYES HGOOD HBAD HST HOK HK0 HEV HLEN HPL HSK h4 hle HY2 hz
          go_wp2_with fail
          refine bodyPost_ret (results_tmp3 rfl _ _ _) rfl ?_
          exact ⟨none, 0, 0, _, by rw [hg.out]; rfl, by rw [hno.out]; exact nil_becomes hM.below⟩
        · rw [if_neg hz] at hg
          have q6 : ((vb : Int) = 0) := by omega
          have hb := Lib.hid (HY2.out hg)
          replace hg := Lib.hid hg
          clear HNO HYES HGOOD HBAD HST HOK HK0 HEV HLEN HPL HSK h4 hle HY2 hz
          go_wp2_with fail
          refine bodyPost_ret (results_tmp3 rfl _ _ _) rfl ?_
          exact ⟨E1, m1, e1, _, by rw [hg.out]; rfl, by rw [hb.out]; exact hM.becomes (List.Mem.head _)⟩
end Go.Proofs.YtdnnjgjaffkdfaaDoor
