/- Signatures of the reference, compared. -/
import Derived.Test.YtdnnjgjaffkdfaaDoorSbk
namespace Go.Proofs.YtdnnjgjaffkdfaaDoor
open Go Go.RowKit Go.Bul Go.Thg Go.Lin
theorem all_pieces {l m : List Nat} {n : Nat} (hl : l.length = 16 * n) (hm : m.length = 16 * n) : ((List.range n).all fun i => piece l i == piece m i) = (l == m) := by
  rw [Bool.eq_iff_iff]
  simp only [List.all_eq_true, List.mem_range, beq_iff_eq]
  constructor
  · intro h
    rw [← pieces_piece n hl, ← pieces_piece n hm]
    exact pieces_congr n h
  · rintro rfl i _
    rfl
/-- Two arrays of arrays of 16 bytes. -/
theorem run_eq_arr2 {P : Program} {T e b : TypeId} {n : Nat} (w : World) (d : Nat) (hT : P.underlying T = some (.array n e)) (he : P.underlying e = some (.array 16 b)) (hb : P.underlying b = some (.int .u8)) (hse : (P.info? e).map (·.size) = some 16) (hsb : (P.info? b).map (·.size) = some 1) (l m : List Nat) (hl : l.length = 16 * n) (hm : m.length = 16 * n) :
    (Op.equalIn (d + 3) T (.agg (cellsOf .u8 l)) (.agg (cellsOf .u8 m))).run P w = .ok (l == m) w := by
  rw [Go.Bul.run_equalIn_array w (d + 2) (cellsOf .u8 l) (cellsOf .u8 m) (fun i => piece l i == piece m i) hT hse, all_pieces hl hm]
  intro i hi
  have h1 : (part e (cellsOf .u8 l) (i * 16)).run P w = .ok (.agg (cellsOf .u8 (piece l i))) w := by
    simp only [part, Sem.run_bind, Go.Bul.run_isAgg he rfl, Go.Bul.run_sizeOf hse, Result.andThen_ok, if_true, Hp.cells_piece .u8 l i (i * 16) (by omega), Sem.run_pure]
  have h2 : (part e (cellsOf .u8 m) (i * 16)).run P w = .ok (.agg (cellsOf .u8 (piece m i))) w := by
    simp only [part, Sem.run_bind, Go.Bul.run_isAgg he rfl, Go.Bul.run_sizeOf hse, Result.andThen_ok, if_true, Hp.cells_piece .u8 m i (i * 16) (by omega), Sem.run_pure]
  simp only [Sem.run_bind, h1, h2, Result.andThen_ok]
  exact run_equalIn_nums w d (piece l i) (piece m i) he hb hsb (piece_length hl hi) (piece_length hm hi)
theorem eq_ch (x y : Ch) (W : World) : (Op.equalIn 10000 23 (.agg (chC x)) (.agg (chC y))).run Tryd.prog W = .ok (decide (x = y)) W := by
  have h := run_eq_arr2 (P := Tryd.prog) W 9997 Tryd.underlying23 Tryd.underlying22 Tryd.underlying5 (by kernel_rfl) (by kernel_rfl) x.val y.val x.len y.len
  have e : (x.val == y.val) = decide (x = y) := by
    by_cases hxy : x = y
    · subst hxy; simp
    · have : ¬ x.val = y.val := fun h => hxy (Ch.ext' h)
      simp [hxy, this]
  rw [e] at h
  exact h
set_option maxRecDepth 20000 in
set_option maxHeartbeats 4000000 in
theorem rsame_any (l1 l2 : Int) (x y : Ch) (A1 A2 : Option Addr) (n1 c1 n2 c2 : Nat) (P Q : List Nd) (w : World) (h1 : NIn w A1 n1 P) (h2 : NIn w A2 n2 Q) (hn : n1 ≤ 1000000) (hn2 : n2 ≤ 1000000) :
    Calls Tryd.prog 19 #[.agg (sigC l1 x A1 n1 c1), .agg (sigC l2 y A2 n2 c2)] w fun e w' => e = .returned (.bool (decide (l1 = l2 ∧ x = y ∧ P = Q))) ∧ Below w.heap.size w w' := by
  have hM := Mem.start [] w
  have hl1 := h1.len
  have hl2 := h2.len
  have HS1 := Lib.hid (sigC_size l1 x A1 n1 c1)
  have H01 := Lib.hid (sigC_0 l1 x A1 n1 c1)
  have HC1 := Lib.hid (sigC_c l1 x A1 n1 c1)
  have HP1 := Lib.hid (sigC_p l1 x A1 n1 c1)
  have HS2 := Lib.hid (sigC_size l2 y A2 n2 c2)
  have H02 := Lib.hid (sigC_0 l2 y A2 n2 c2)
  have HC2 := Lib.hid (sigC_c l2 y A2 n2 c2)
  have HP2 := Lib.hid (sigC_p l2 y A2 n2 c2)
  generalize sigC l1 x A1 n1 c1 = X at HS1 H01 HC1 HP1 ⊢
  generalize sigC l2 y A2 n2 c2 = Y at HS2 H02 HC2 HP2 ⊢
  by_cases hl : l1 = l2
  · subst hl
    have q1 : (l1 != l1) = false := by simp
    have qe := eq_ch x y
    by_cases hx : x = y
    · rw [decide_eq_true hx] at qe
      by_cases hnn : n1 = n2
      · subst hnn
        have q2 : ((n1 : Int) != (n1 : Int)) = false := by simp
        have HN1 := Lib.hid h1
        have HN2 := Lib.hid h2
        have HL1 := Lib.hid hl1
        have HL2 := Lib.hid hl2
        have HX := Lib.hid hx
        have n0 : (n1 : Int) ≤ 1000000 := by omega
        clear h1 h2 hl1 hl2 hx hn2
        generalize hz : decide (l1 = l1 ∧ x = y ∧ P = Q) = z
        replace hz := Lib.hid hz
        go_enter Tryd.func19, Tryd.ntmps19
        go_wp2_with (first | ((with_reducible refine at_box ?_); first | (refine slb hM ?_ (hty := row_rsg) (hn := HS1.out); clear hM; intro g2 w1 hM) | (refine slb hM ?_ (hty := row_rsg) (hn := HS2.out); clear hM; intro g3 w1 hM)) | ((first | with_reducible refine at_load ?_ | ((with_reducible refine at_load_g ?_ ?_); (· rfl))); first | refine slc hM ?_ (hv := H01.out) | refine slc hM ?_ (hv := H02.out) | refine slc hM ?_ (hv := HP1.out) | refine slc hM ?_ (hv := HP2.out) | refine slp hM ?_ (hX := HC1.out) (hty := row_a560) | refine slp hM ?_ (hX := HC2.out) (hty := row_a560)))
        have M0 := Lib.hid hM
        clear hM
        go_loopw [5] (fun i wr => ∃ j : Nat, j ≤ n1 ∧ i = .int .i64 (j : Nat) ∧ P.take j = Q.take j ∧ Mem [] w [⟨g3, 26, 562, Y⟩, ⟨g2, 26, 562, X⟩] [] wr) (fun i _ => n1 - (intOf i).toNat)
        case atStart => exact ⟨0, by omega, rfl, rfl, M0.out⟩
        case round =>
          clear M0
          obtain ⟨j, hj, rfl, hpre, hM⟩ := hrel
          by_cases hlt : j < n1
          · have hjp : j < P.length := by have := HL1.out; omega
            have hjq : j < Q.length := by have := HL2.out; omega
            obtain ⟨ga, oa, rfl, _, h5⟩ := NIn.row HN1.out j hjp
            obtain ⟨gb, ob, rfl, _, h6⟩ := NIn.row HN2.out j hjq
            have C1 := Lib.hid (fun w' (hb : Below w.heap.size w w') => NIn.cell (HN1.out.keep hb) j hjp)
            have C2 := Lib.hid (fun w' (hb : Below w.heap.size w w') => NIn.cell (HN2.out.keep hb) j hjq)
            have hp1 : P.take (j + 1) = P.take j ++ [P[j]] := List.take_succ_eq_append_getElem hjp
            have hq1 : Q.take (j + 1) = Q.take j ++ [Q[j]] := List.take_succ_eq_append_getElem hjq
            have r0 : (0 : Int) ≤ (j : Int) := Int.natCast_nonneg _
            have r1 : (j : Int) < (n1 : Int) := by omega
            by_cases hpq : P[j] = Q[j]
            · have hnx : P.take (j + 1) = Q.take (j + 1) := by rw [hp1, hq1, hpre, hpq]
              have qe2 := eq_16 P[j] Q[j]
              rw [decide_eq_true hpq] at qe2
              generalize P[j] = u at C1 h5 qe2
              generalize Q[j] = v at C2 h6 qe2
              replace hnx := Lib.hid hnx
              clear h5 h6 hp1 hq1 hpq hpre hjp hjq
              go_upto_region 6 with (first | ((with_reducible refine at_load ?_); refine slc hM ?_ (hv := HP1.out)))
              refine Go.Bul.wp_region_class (Mem _ w _ _) (by kernel_rfl) (by kernel_rfl) hM.drew ?_
              repeat ((with_reducible refine wpQuiet_step (fun K hK => ?_)); (first | ((first | ((with_reducible refine quiet_some ?_ ?_); (· rfl)) | ((with_reducible refine quiet_wanted ?_ ?_); (· rfl))); apply Exists.intro; refine ⟨fun w' hM' => ?_, ?_⟩; (· first | (go_simp; rfl) | exact qc hM' | first | exact sqc hM' (hv := HP1.out) | exact sqc hM' (hv := HP2.out) | exact qr (C1.out _ hM'.below) (hty := row_a16) | exact qr (C2.out _ hM'.below) (hty := row_a16) | exact ql hM' | exact qp hM')) | ((with_reducible refine quiet_unwanted ?_ ?_); (· rfl))); go_simp; (with_reducible refine hK _ ?_); clear hK K)
              refine wpQuiet_nil ?_
              intro wx hM
              go_wp2_with fail
              exact ⟨⟨j + 1, by omega, by go_num, hnx.out, hM⟩, by simp [intOf]; omega⟩
            · have hno := Lib.hid (show ¬ (P = Q) by rintro rfl; exact hpq rfl)
              have qe2 := eq_16 P[j] Q[j]
              rw [decide_eq_false hpq] at qe2
              generalize P[j] = u at C1 h5 qe2
              generalize Q[j] = v at C2 h6 qe2
              clear h5 h6 hp1 hq1 hpq hpre hjp hjq
              go_upto_region 6 with (first | ((with_reducible refine at_load ?_); refine slc hM ?_ (hv := HP1.out)))
              refine Go.Bul.wp_region_class (Mem _ w _ _) (by kernel_rfl) (by kernel_rfl) hM.drew ?_
              repeat ((with_reducible refine wpQuiet_step (fun K hK => ?_)); (first | ((first | ((with_reducible refine quiet_some ?_ ?_); (· rfl)) | ((with_reducible refine quiet_wanted ?_ ?_); (· rfl))); apply Exists.intro; refine ⟨fun w' hM' => ?_, ?_⟩; (· first | (go_simp; rfl) | exact qc hM' | first | exact sqc hM' (hv := HP1.out) | exact sqc hM' (hv := HP2.out) | exact qr (C1.out _ hM'.below) (hty := row_a16) | exact qr (C2.out _ hM'.below) (hty := row_a16) | exact ql hM' | exact qp hM')) | ((with_reducible refine quiet_unwanted ?_ ?_); (· rfl))); go_simp; (with_reducible refine hK _ ?_); clear hK K)
              refine wpQuiet_nil ?_
              intro wx hM
              go_wp2_with fail
              go_ret
              exact ⟨by rw [← hz.out, decide_eq_false (fun h => hno.out h.2.2)]; rfl, hM.below⟩
          · have hpq : P = Q := by
              rw [List.take_of_length_le (by have := HL1.out; omega), List.take_of_length_le (by have := HL2.out; omega)] at hpre
              exact hpre
            replace hpq := Lib.hid hpq
            have r1 : ¬ ((j : Int) < (n1 : Int)) := by omega
            clear hpre
            go_wp2_with ((with_reducible refine at_load ?_); refine slc hM ?_ (hv := HP1.out))
            go_ret
            exact ⟨by rw [← hz.out, decide_eq_true ⟨trivial, HX.out, hpq.out⟩]; rfl, hM.below⟩
      · rw [decide_eq_false (by rintro ⟨_, _, rfl⟩; omega)]
        have q2 : ((n1 : Int) != (n2 : Int)) = true := by simp; omega
        clear h1 h2 hl1 hl2 hx hnn hn hn2
        go_enter Tryd.func19, Tryd.ntmps19
        go_wp2_with (first | ((with_reducible refine at_box ?_); first | (refine slb hM ?_ (hty := row_rsg) (hn := HS1.out); clear hM; intro g2 w1 hM) | (refine slb hM ?_ (hty := row_rsg) (hn := HS2.out); clear hM; intro g3 w1 hM)) | ((first | with_reducible refine at_load ?_ | ((with_reducible refine at_load_g ?_ ?_); (· rfl))); first | refine slc hM ?_ (hv := H01.out) | refine slc hM ?_ (hv := H02.out) | refine slc hM ?_ (hv := HP1.out) | refine slc hM ?_ (hv := HP2.out) | refine slp hM ?_ (hX := HC1.out) (hty := row_a560) | refine slp hM ?_ (hX := HC2.out) (hty := row_a560)))
        go_ret
        exact ⟨rfl, hM.below⟩
    · rw [decide_eq_false hx] at qe
      rw [decide_eq_false (fun h => hx h.2.1)]
      clear h1 h2 hl1 hl2 hx hn hn2
      go_enter Tryd.func19, Tryd.ntmps19
      go_wp2_with (first | ((with_reducible refine at_box ?_); first | (refine slb hM ?_ (hty := row_rsg) (hn := HS1.out); clear hM; intro g2 w1 hM) | (refine slb hM ?_ (hty := row_rsg) (hn := HS2.out); clear hM; intro g3 w1 hM)) | ((first | with_reducible refine at_load ?_ | ((with_reducible refine at_load_g ?_ ?_); (· rfl))); first | refine slc hM ?_ (hv := H01.out) | refine slc hM ?_ (hv := H02.out) | refine slc hM ?_ (hv := HP1.out) | refine slc hM ?_ (hv := HP2.out) | refine slp hM ?_ (hX := HC1.out) (hty := row_a560) | refine slp hM ?_ (hX := HC2.out) (hty := row_a560)))
      go_ret
      exact ⟨rfl, hM.below⟩
  · have q1 : (l1 != l2) = true := by simpa using hl
    rw [decide_eq_false (fun h => hl h.1)]
    clear h1 h2 hl1 hl2 hl hn hn2
    go_enter Tryd.func19, Tryd.ntmps19
    go_wp2_with (first | ((with_reducible refine at_box ?_); first | (refine slb hM ?_ (hty := row_rsg) (hn := HS1.out); clear hM; intro g2 w1 hM) | (refine slb hM ?_ (hty := row_rsg) (hn := HS2.out); clear hM; intro g3 w1 hM)) | ((first | with_reducible refine at_load ?_ | ((with_reducible refine at_load_g ?_ ?_); (· rfl))); first | refine slc hM ?_ (hv := H01.out) | refine slc hM ?_ (hv := H02.out) | refine slc hM ?_ (hv := HP1.out) | refine slc hM ?_ (hv := HP2.out) | refine slp hM ?_ (hX := HC1.out) (hty := row_a560) | refine slp hM ?_ (hX := HC2.out) (hty := row_a560)))
    go_ret
    exact ⟨rfl, hM.below⟩
end Go.Proofs.YtdnnjgjaffkdfaaDoor
