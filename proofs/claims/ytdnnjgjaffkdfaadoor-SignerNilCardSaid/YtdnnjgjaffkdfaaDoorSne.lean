/- Contracts of slices.Equal at rows of [16]byte, Equal; a signer that is nil. -/
import Derived.Test.YtdnnjgjaffkdfaaDoorSbl
import Derived.Test.YtdnnjgjaffkdfaaDoorSgl
namespace Go.Proofs.YtdnnjgjaffkdfaaDoor
open Go Go.RowKit Go.Bul Go.Thg Go.Lin
set_option maxRecDepth 20000 in
set_option maxHeartbeats 4000000 in
theorem seq_any (A1 A2 : Option Addr) (n1 c1 n2 c2 : Nat) (P Q : List Nd) (w : World) (h1 : NIn w A1 n1 P) (h2 : NIn w A2 n2 Q) (hn : n1 ≤ 1000000) (hn2 : n2 ≤ 1000000) :
    Calls Tryd.prog 68 #[.slice A1 n1 c1, .slice A2 n2 c2] w fun e w' => e = .returned (.bool (decide (P = Q))) ∧ Below w.heap.size w w' := by
  have hM := Mem.start [] w
  have hl1 := h1.len
  have hl2 := h2.len
  by_cases hnn : n1 = n2
  · subst hnn
    have q2 : ((n1 : Int) != (n1 : Int)) = false := by simp
    have HN1 := Lib.hid h1
    have HN2 := Lib.hid h2
    have HL1 := Lib.hid hl1
    have HL2 := Lib.hid hl2
    have n0 : (n1 : Int) ≤ 1000000 := by omega
    clear h1 h2 hl1 hl2 hn2
    generalize hz : decide (P = Q) = z
    replace hz := Lib.hid hz
    go_enter Tryd.func68, Tryd.ntmps68
    go_wp2_with fail
    have M0 := Lib.hid hM
    clear hM
    go_loopw [13] (fun i wr => ∃ j : Nat, j ≤ n1 ∧ i = .int .i64 (j : Nat) ∧ P.take j = Q.take j ∧ Mem [] w [] [] wr) (fun i _ => n1 - (intOf i).toNat)
    case atStart => exact ⟨0, by omega, rfl, rfl, M0.out⟩
    case round =>
      clear M0
      obtain ⟨j, hj, rfl, hpre, hM⟩ := hrel
      by_cases hlt : j < n1
      · have hjp : j < P.length := by have := HL1.out; omega
        have hjq : j < Q.length := by have := HL2.out; omega
        obtain ⟨ga, oa, rfl, _, h5⟩ := NIn.row HN1.out j hjp
        obtain ⟨gb, ob, rfl, _, h6⟩ := NIn.row HN2.out j hjq
        have C1 := Lib.hid (fun w' (hb : Below w.heap.size w w') => NIn.cell (HN1.out.keep hb) j hjp)
        have C2 := Lib.hid (fun w' (hb : Below w.heap.size w w') => NIn.cell (HN2.out.keep hb) j hjq)
        have hp1 : P.take (j + 1) = P.take j ++ [P[j]] := List.take_succ_eq_append_getElem hjp
        have hq1 : Q.take (j + 1) = Q.take j ++ [Q[j]] := List.take_succ_eq_append_getElem hjq
        have r0 : (0 : Int) ≤ (j : Int) := Int.natCast_nonneg _
        have r1 : (j : Int) < (n1 : Int) := by omega
        by_cases hpq : P[j] = Q[j]
        · have hnx : P.take (j + 1) = Q.take (j + 1) := by rw [hp1, hq1, hpre, hpq]
          have qe2 := eq_16 P[j] Q[j]
          rw [decide_eq_true hpq] at qe2
          generalize P[j] = u at C1 h5 qe2
          generalize Q[j] = v at C2 h6 qe2
          replace hnx := Lib.hid hnx
          clear h5 h6 hp1 hq1 hpq hpre hjp hjq
          go_upto_region 6 with fail
          refine Go.Bul.wp_region_class (Mem _ w _ _) (by kernel_rfl) (by kernel_rfl) hM.drew ?_
          repeat ((with_reducible refine wpQuiet_step (fun K hK => ?_)); (first | ((first | ((with_reducible refine quiet_some ?_ ?_); (· rfl)) | ((with_reducible refine quiet_wanted ?_ ?_); (· rfl))); apply Exists.intro; refine ⟨fun w' hM' => ?_, ?_⟩; (· first | (go_simp; rfl) | exact qc hM' | first | exact qr (C1.out _ hM'.below) (hty := row_a16) | exact qr (C2.out _ hM'.below) (hty := row_a16) | exact ql hM' | exact qp hM')) | ((with_reducible refine quiet_unwanted ?_ ?_); (· rfl))); go_simp; (with_reducible refine hK _ ?_); clear hK K)
          refine wpQuiet_nil ?_
          intro wx hM
          go_wp2_with fail
          exact ⟨⟨j + 1, by omega, by go_num, hnx.out, hM⟩, by simp [intOf]; omega⟩
        · have hno := Lib.hid (show ¬ (P = Q) by rintro rfl; exact hpq rfl)
          have qe2 := eq_16 P[j] Q[j]
          rw [decide_eq_false hpq] at qe2
          generalize P[j] = u at C1 h5 qe2
          generalize Q[j] = v at C2 h6 qe2
          clear h5 h6 hp1 hq1 hpq hpre hjp hjq
          go_upto_region 6 with fail
          refine Go.Bul.wp_region_class (Mem _ w _ _) (by kernel_rfl) (by kernel_rfl) hM.drew ?_
          repeat ((with_reducible refine wpQuiet_step (fun K hK => ?_)); (first | ((first | ((with_reducible refine quiet_some ?_ ?_); (· rfl)) | ((with_reducible refine quiet_wanted ?_ ?_); (· rfl))); apply Exists.intro; refine ⟨fun w' hM' => ?_, ?_⟩; (· first | (go_simp; rfl) | exact qc hM' | first | exact qr (C1.out _ hM'.below) (hty := row_a16) | exact qr (C2.out _ hM'.below) (hty := row_a16) | exact ql hM' | exact qp hM')) | ((with_reducible refine quiet_unwanted ?_ ?_); (· rfl))); go_simp; (with_reducible refine hK _ ?_); clear hK K)
          refine wpQuiet_nil ?_
          intro wx hM
          go_wp2_with fail
          go_ret
          exact ⟨by rw [← hz.out, decide_eq_false hno.out]; rfl, hM.below⟩
      · have hpq : P = Q := by
          rw [List.take_of_length_le (by have := HL1.out; omega), List.take_of_length_le (by have := HL2.out; omega)] at hpre
          exact hpre
        replace hpq := Lib.hid hpq
        have r1 : ¬ ((j : Int) < (n1 : Int)) := by omega
        clear hpre
        go_wp2_with fail
        go_ret
        exact ⟨by rw [← hz.out, decide_eq_true hpq.out]; rfl, hM.below⟩
  · rw [decide_eq_false (show ¬ (P = Q) by rintro rfl; omega)]
    have q2 : ((n1 : Int) != (n2 : Int)) = true := by simp; omega
    clear h1 h2 hl1 hl2 hnn hn hn2
    go_enter Tryd.func68, Tryd.ntmps68
    go_wp2_with fail
    go_ret
    exact ⟨rfl, hM.below⟩
set_option maxRecDepth 20000 in
set_option maxHeartbeats 4000000 in
theorem equal_any (l1 l2 : Int) (x y : Ch) (A1 A2 : Option Addr) (n1 c1 n2 c2 : Nat) (P Q : List Nd) (w : World) (h1 : NIn w A1 n1 P) (h2 : NIn w A2 n2 Q) (hn : n1 ≤ 1000000) (hn2 : n2 ≤ 1000000) :
    Calls Tryd.prog 37 #[.agg (sigC l1 x A1 n1 c1), .agg (sigC l2 y A2 n2 c2)] w fun e w' => e = .returned (.bool (decide (l1 = l2 ∧ x = y ∧ P = Q))) ∧ Below w.heap.size w w' := by
  have hM := Mem.start [] w
  have HS1 := Lib.hid (sigC_size l1 x A1 n1 c1)
  have H01 := Lib.hid (sigC_0 l1 x A1 n1 c1)
  have HC1 := Lib.hid (sigC_c l1 x A1 n1 c1)
  have HP1 := Lib.hid (sigC_p l1 x A1 n1 c1)
  have HS2 := Lib.hid (sigC_size l2 y A2 n2 c2)
  have H02 := Lib.hid (sigC_0 l2 y A2 n2 c2)
  have HC2 := Lib.hid (sigC_c l2 y A2 n2 c2)
  have HP2 := Lib.hid (sigC_p l2 y A2 n2 c2)
  have HE := Lib.hid (fun w' (hb : Below w.heap.size w w') => seq_any A1 A2 n1 c1 n2 c2 P Q w' (h1.keep hb) (h2.keep hb) hn hn2)
  generalize sigC l1 x A1 n1 c1 = X at HS1 H01 HC1 HP1 ⊢
  generalize sigC l2 y A2 n2 c2 = Y at HS2 H02 HC2 HP2 ⊢
  have qe := eq_ch x y
  have qi : (l1 == l2) = decide (l1 = l2) := by by_cases h : l1 = l2 <;> simp [h]
  have hd : decide (l1 = l2 ∧ x = y ∧ P = Q) = (decide (l1 = l2) && (decide (x = y) && decide (P = Q))) := by simp
  rw [hd]
  clear h1 h2 hn hn2 hd
  generalize decide (P = Q) = b3 at HE ⊢
  generalize decide (x = y) = b2 at qe ⊢
  generalize decide (l1 = l2) = b1 at qi ⊢
  cases b1
  · go_enter Tryd.func37, Tryd.ntmps37
    go_wp2_with (first | ((with_reducible refine at_box ?_); first | (refine slb hM ?_ (hty := row_sgn) (hn := HS1.out); clear hM; intro g2 w1 hM) | (refine slb hM ?_ (hty := row_sgn) (hn := HS2.out); clear hM; intro g3 w1 hM)) | ((first | with_reducible refine at_load ?_ | ((with_reducible refine at_load_g ?_ ?_); (· rfl))); first | refine slc hM ?_ (hv := H01.out) | refine slc hM ?_ (hv := H02.out) | refine slc hM ?_ (hv := HP1.out) | refine slc hM ?_ (hv := HP2.out) | refine slp hM ?_ (hX := HC1.out) (hty := row_a560) | refine slp hM ?_ (hX := HC2.out) (hty := row_a560)) | ((with_reducible refine (HE.out _ hM.below).mono ?_); rintro e w1 ⟨rfl, hb⟩; replace hM := hM.step hb; clear hb))
    go_ret
    exact ⟨rfl, hM.below⟩
  · cases b2
    · go_enter Tryd.func37, Tryd.ntmps37
      go_wp2_with (first | ((with_reducible refine at_box ?_); first | (refine slb hM ?_ (hty := row_sgn) (hn := HS1.out); clear hM; intro g2 w1 hM) | (refine slb hM ?_ (hty := row_sgn) (hn := HS2.out); clear hM; intro g3 w1 hM)) | ((first | with_reducible refine at_load ?_ | ((with_reducible refine at_load_g ?_ ?_); (· rfl))); first | refine slc hM ?_ (hv := H01.out) | refine slc hM ?_ (hv := H02.out) | refine slc hM ?_ (hv := HP1.out) | refine slc hM ?_ (hv := HP2.out) | refine slp hM ?_ (hX := HC1.out) (hty := row_a560) | refine slp hM ?_ (hX := HC2.out) (hty := row_a560)) | ((with_reducible refine (HE.out _ hM.below).mono ?_); rintro e w1 ⟨rfl, hb⟩; replace hM := hM.step hb; clear hb))
      go_ret
      exact ⟨rfl, hM.below⟩
    · go_enter Tryd.func37, Tryd.ntmps37
      go_wp2_with (first | ((with_reducible refine at_box ?_); first | (refine slb hM ?_ (hty := row_sgn) (hn := HS1.out); clear hM; intro g2 w1 hM) | (refine slb hM ?_ (hty := row_sgn) (hn := HS2.out); clear hM; intro g3 w1 hM)) | ((first | with_reducible refine at_load ?_ | ((with_reducible refine at_load_g ?_ ?_); (· rfl))); first | refine slc hM ?_ (hv := H01.out) | refine slc hM ?_ (hv := H02.out) | refine slc hM ?_ (hv := HP1.out) | refine slc hM ?_ (hv := HP2.out) | refine slp hM ?_ (hX := HC1.out) (hty := row_a560) | refine slp hM ?_ (hX := HC2.out) (hty := row_a560)) | ((with_reducible refine (HE.out _ hM.below).mono ?_); rintro e w1 ⟨rfl, hb⟩; replace hM := hM.step hb; clear hb))
      go_ret
      exact ⟨rfl, hM.below⟩
end Go.Proofs.YtdnnjgjaffkdfaaDoor
