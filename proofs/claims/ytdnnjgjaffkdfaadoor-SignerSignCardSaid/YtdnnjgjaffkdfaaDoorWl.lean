/- The reference: Check, Value. The reference: Value. -/
import Derived.Test.YtdnnjgjaffkdfaaDoorSbl
import Derived.Test.YtdnnjgjaffkdfaaDoorORva
namespace Go.Proofs.YtdnnjgjaffkdfaaDoor
open Go Go.RowKit Go.Bul Go.Thg Go.Lin
set_option maxRecDepth 20000 in
set_option maxHeartbeats 2000000 in
theorem rchk_any (leaf : Int) (ch : Ch) (A : Option Addr) (n c : Nat) (w : World) (hn : n ≤ 1000000) : Calls Tryd.prog 14 #[.agg (sigC leaf ch A n c)] w fun e w' => e = .returned (.int .i64 (sgE leaf n)) ∧ Below w.heap.size w w' := by
  have hM := Mem.start [] w
  have H0 := Lib.hid (sigC_0 leaf ch A n c)
  have HP := Lib.hid (sigC_p leaf ch A n c)
  have HS := Lib.hid (sigC_size leaf ch A n c)
  generalize sigC leaf ch A n c = X at H0 HP HS ⊢
  have n0 : (0 : Int) ≤ (n : Int) := Int.natCast_nonneg _
  unfold sgE hE
  by_cases h1 : 1 ≤ n
  · have r1 : decide ((n : Int) < 1) = false := decide_eq_false (by omega)
    by_cases h8 : n ≤ 8
    · have r2 : decide (8 < (n : Int)) = false := decide_eq_false (by omega)
      have hp : 2 ^ n ≤ 2 ^ 8 := Nat.pow_le_pow_right (by decide) h8
      have hp2 : (2 : Int) ^ n = ((2 ^ n : Nat) : Int) := by simp
      have hp3 : (0 : Int) ≤ (2 : Int) ^ n := by rw [hp2]; exact Int.natCast_nonneg _
      have hp4 : (2 : Int) ^ n ≤ 256 := by rw [hp2]; omega
      have c5 : IntKind.i64.wrap ((2 : Int) ^ n) = (2 : Int) ^ n := IntWalk.i64_in _ ⟨by omega, by omega⟩
      have n1 : (n : Int) ≤ 8 := by omega
      by_cases hl : 0 ≤ leaf
      · have r3 : decide (leaf < 0) = false := decide_eq_false (by omega)
        by_cases hu : leaf < 2 ^ n
        · rw [if_pos ⟨if_pos ⟨by omega, by omega⟩, hl, hu⟩]
          have r4 : decide ((2 : Int) ^ n ≤ leaf) = false := decide_eq_false (by omega)
          clear h1 h8 hp hp2 hp3 hp4 hl hu hn
          go_enter Tryd.func14, Tryd.ntmps14
          go_upto_region 2 with (first | ((with_reducible refine at_box ?_); refine slb hM ?_ (hty := row_rsg) (hn := HS.out); clear hM; intro g1 w1 hM) | ((with_reducible refine at_load ?_); refine slc hM ?_ (hv := HP.out)))
          refine Go.Bul.wp_region_class (Mem _ w _ _) (by kernel_rfl) (by kernel_rfl) hM.drew ?_
          repeat ((with_reducible refine wpQuiet_step (fun K hK => ?_)); (first | ((first | ((with_reducible refine quiet_some ?_ ?_); (· rfl)) | ((with_reducible refine Go.Thg.quiet_wanted ?_ ?_); (· rfl))); apply Exists.intro; refine ⟨fun w' hM' => ?_, ?_⟩; (· first | (go_simp; rfl) | exact sqc hM' (hv := H0.out) | exact qc hM' | exact ql hM' | exact qp hM')) | ((with_reducible refine Go.Thg.quiet_unwanted ?_ ?_); (· rfl))); go_simp; (with_reducible refine hK _ ?_); clear hK K)
          refine wpQuiet_nil ?_
          intro wx hM
          go_wp2_with fail
          go_ret
          exact ⟨rfl, hM.below⟩
        · rw [if_neg (fun h => hu h.2.2)]
          have r4 : decide ((2 : Int) ^ n ≤ leaf) = true := decide_eq_true (by omega)
          clear h1 h8 hp hp2 hp3 hp4 hl hu hn
          go_enter Tryd.func14, Tryd.ntmps14
          go_upto_region 2 with (first | ((with_reducible refine at_box ?_); refine slb hM ?_ (hty := row_rsg) (hn := HS.out); clear hM; intro g1 w1 hM) | ((with_reducible refine at_load ?_); refine slc hM ?_ (hv := HP.out)))
          refine Go.Bul.wp_region_class (Mem _ w _ _) (by kernel_rfl) (by kernel_rfl) hM.drew ?_
          repeat ((with_reducible refine wpQuiet_step (fun K hK => ?_)); (first | ((first | ((with_reducible refine quiet_some ?_ ?_); (· rfl)) | ((with_reducible refine Go.Thg.quiet_wanted ?_ ?_); (· rfl))); apply Exists.intro; refine ⟨fun w' hM' => ?_, ?_⟩; (· first | (go_simp; rfl) | exact sqc hM' (hv := H0.out) | exact qc hM' | exact ql hM' | exact qp hM')) | ((with_reducible refine Go.Thg.quiet_unwanted ?_ ?_); (· rfl))); go_simp; (with_reducible refine hK _ ?_); clear hK K)
          refine wpQuiet_nil ?_
          intro wx hM
          go_wp2_with fail
          go_ret
          exact ⟨rfl, hM.below⟩
      · rw [if_neg (fun h => hl h.2.1)]
        have r3 : decide (leaf < 0) = true := decide_eq_true (by omega)
        clear h1 h8 hp hp2 hp3 hp4 hl hn
        go_enter Tryd.func14, Tryd.ntmps14
        go_upto_region 2 with (first | ((with_reducible refine at_box ?_); refine slb hM ?_ (hty := row_rsg) (hn := HS.out); clear hM; intro g1 w1 hM) | ((with_reducible refine at_load ?_); refine slc hM ?_ (hv := HP.out)))
        refine Go.Bul.wp_region_class (Mem _ w _ _) (by kernel_rfl) (by kernel_rfl) hM.drew ?_
        repeat ((with_reducible refine wpQuiet_step (fun K hK => ?_)); (first | ((first | ((with_reducible refine quiet_some ?_ ?_); (· rfl)) | ((with_reducible refine Go.Thg.quiet_wanted ?_ ?_); (· rfl))); apply Exists.intro; refine ⟨fun w' hM' => ?_, ?_⟩; (· first | (go_simp; rfl) | exact sqc hM' (hv := H0.out) | exact qc hM' | exact ql hM' | exact qp hM')) | ((with_reducible refine Go.Thg.quiet_unwanted ?_ ?_); (· rfl))); go_simp; (with_reducible refine hK _ ?_); clear hK K)
        refine wpQuiet_nil ?_
        intro wx hM
        go_wp2_with fail
        go_ret
        exact ⟨rfl, hM.below⟩
    · rw [if_neg (fun h => absurd h.1 (by rw [if_neg (by omega)]; decide))]
      have r2 : decide (8 < (n : Int)) = true := decide_eq_true (by omega)
      clear h1 h8 hn
      go_enter Tryd.func14, Tryd.ntmps14
      go_upto_region 2 with (first | ((with_reducible refine at_box ?_); refine slb hM ?_ (hty := row_rsg) (hn := HS.out); clear hM; intro g1 w1 hM) | ((with_reducible refine at_load ?_); refine slc hM ?_ (hv := HP.out)))
      refine Go.Bul.wp_region_class (Mem _ w _ _) (by kernel_rfl) (by kernel_rfl) hM.drew ?_
      repeat ((with_reducible refine wpQuiet_step (fun K hK => ?_)); (first | ((first | ((with_reducible refine quiet_some ?_ ?_); (· rfl)) | ((with_reducible refine Go.Thg.quiet_wanted ?_ ?_); (· rfl))); apply Exists.intro; refine ⟨fun w' hM' => ?_, ?_⟩; (· first | (go_simp; rfl) | exact sqc hM' (hv := H0.out) | exact qc hM' | exact ql hM' | exact qp hM')) | ((with_reducible refine Go.Thg.quiet_unwanted ?_ ?_); (· rfl))); go_simp; (with_reducible refine hK _ ?_); clear hK K)
      refine wpQuiet_nil ?_
      intro wx hM
      go_wp2_with fail
      go_ret
      exact ⟨rfl, hM.below⟩
  · rw [if_neg (fun h => absurd h.1 (by rw [if_neg (by omega)]; decide))]
    have r1 : decide ((n : Int) < 1) = true := decide_eq_true (by omega)
    clear h1 hn
    go_enter Tryd.func14, Tryd.ntmps14
    go_upto_region 2 with (first | ((with_reducible refine at_box ?_); refine slb hM ?_ (hty := row_rsg) (hn := HS.out); clear hM; intro g1 w1 hM) | ((with_reducible refine at_load ?_); refine slc hM ?_ (hv := HP.out)))
    refine Go.Bul.wp_region_class (Mem _ w _ _) (by kernel_rfl) (by kernel_rfl) hM.drew ?_
    repeat ((with_reducible refine wpQuiet_step (fun K hK => ?_)); (first | ((first | ((with_reducible refine quiet_some ?_ ?_); (· rfl)) | ((with_reducible refine Go.Thg.quiet_wanted ?_ ?_); (· rfl))); apply Exists.intro; refine ⟨fun w' hM' => ?_, ?_⟩; (· first | (go_simp; rfl) | exact sqc hM' (hv := H0.out) | exact qc hM' | exact ql hM' | exact qp hM')) | ((with_reducible refine Go.Thg.quiet_unwanted ?_ ?_); (· rfl))); go_simp; (with_reducible refine hK _ ?_); clear hK K)
    refine wpQuiet_nil ?_
    intro wx hM
    go_wp2_with fail
    go_ret
    exact ⟨rfl, hM.below⟩
end Go.Proofs.YtdnnjgjaffkdfaaDoor
namespace Go.Lin
open Go Go.Bul
theorem sigC_piece (leaf : Int) (ch : Ch) (A : Option Addr) (n c j : Nat) (hj : j < 35) : (sigC leaf ch A n c).extract (1 + j * 16) (1 + j * 16 + 16) = ndC (chN ch j hj) := by
  have h := sigC_c leaf ch A n c
  have h2 : (chC ch).extract (j * 16) (j * 16 + 16) = ndC (chN ch j hj) := Hp.cells_piece .u8 ch.val j (j * 16) (by omega)
  rw [← h2, ← h, Array.extract_extract]
  congr 1
  omega
/-- The first chains, the rest not yet set. -/
def chTo (ch : Ch) (j : Nat) : Array Value := cellsOf .u8 (ch.val.take (16 * j) ++ Go.Thg.zeros (560 - 16 * j))
theorem chTo_size (ch : Ch) (j : Nat) (hj : j ≤ 35) : (chTo ch j).size = 560 := by simp [chTo, ch.len, Go.Thg.zeros]; omega
theorem chTo_0 (ch : Ch) : chTo ch 0 = chC ch0 := by simp [chTo, ch0]
theorem chTo_35 (ch : Ch) : chTo ch 35 = chC ch := by
  unfold chTo
  rw [List.take_of_length_le (by have := ch.len; omega)]
  simp [Go.Thg.zeros]
theorem chTo_put (ch : Ch) (j : Nat) (hj : j < 35) : (splice (chTo ch j).toList (j * 16) (ndC (chN ch j hj)).toList).toArray = chTo ch (j + 1) := by
  unfold chTo
  rw [show ndC (chN ch j hj) = cellsOf .u8 (chN ch j hj).val from rfl, Hp.splice_piece .u8 _ _ j (j * 16) (by omega) (chN ch j hj).len]
  congr 1
  have hl : (ch.val.take (16 * j)).length = 16 * j := by rw [List.length_take, ch.len]; omega
  unfold Hp.putPiece
  rw [List.take_append_of_le_length (by omega), List.take_of_length_le (by omega), List.drop_append, List.drop_of_length_le (by omega), hl, chN_take ch j hj, List.nil_append, List.append_assoc]
  congr 2
  simp only [Go.Thg.zeros, List.drop_replicate]
  congr 1
  omega
end Go.Lin
namespace Go.Proofs.YtdnnjgjaffkdfaaDoor
open Go Go.RowKit Go.Bul Go.Thg Go.Lin
theorem row_v35 : RowTy Tryd.prog 109 560 := ⟨⟨_, Tryd.underlying109, rfl, by kernel_rfl⟩⟩
theorem zero_v35 : ZeroTy Tryd.prog 109 560 (chC ch0) := ⟨⟨.agg _, by kernel_rfl, rfl, chC_size _⟩⟩
theorem row_rva : RowTy Tryd.prog 108 16 := ⟨⟨_, Tryd.underlying108, rfl, by kernel_rfl⟩⟩
set_option maxRecDepth 20000 in
set_option maxHeartbeats 4000000 in
theorem rvalue_any (k : Nat) (ch : Ch) (A : Option Addr) (n c : Nat) (d : Nd) (w : World) (hk : k ≤ 65535) :
    Calls Tryd.prog 52 #[.agg (ndC d), .agg (sigC (k : Nat) ch A n c)] w fun e w' => e = .returned (.agg (ndC (rcN k d ch))) ∧ Below w.heap.size w w' := by
  have hM := Mem.start [] w
  have HS := Lib.hid (sigC_size (k : Nat) ch A n c)
  have H0 := Lib.hid (sigC_0 (k : Nat) ch A n c)
  have HPC := Lib.hid (fun j hj => sigC_piece (k : Nat) ch A n c j hj)
  have HL := Lib.hid (fun w => Once.last_any d.val ch.val k (k : Nat) w d.len d.byt ch.len ch.byt hk rfl)
  have HCO := Lib.hid (fun w => Once.rcompress_any (lastV k d.val ch.val) k (k : Nat) w (Once.lastV_length' _ _ _ ch.len) (Once.bytes_lastV _ _ _ ch.byt) hk rfl)
  change Hid (∀ w, Calls _ _ _ w fun e w'' => e = .returned (.agg (ndC (rcN k d ch))) ∧ _) at HCO
  generalize lastV k d.val ch.val = LV at HL HCO
  generalize rcN k d ch = Z at HCO ⊢
  generalize sigC (k : Nat) ch A n c = X at HS H0 HPC ⊢
  clear hk
  go_enter Tryd.func52, Tryd.ntmps52
  go_wp2_with (first | ((with_reducible refine at_box ?_); first | (refine slb hM ?_ (hty := row_rsg) (hn := HS.out); clear hM; intro g3 w1 hM) | (refine slb hM ?_ (hty := row_a16) (hn := ndC_size _); clear hM; intro g2 w1 hM)) | ((with_reducible refine at_alloc ?_); first | (refine slz hM ?_ (hz := zero_a16); clear hM; intro g4 w1 hM) | (refine slz hM ?_ (hz := zero_v35); clear hM; intro g5 w1 hM)))
  obtain ⟨g5, hg5⟩ := hM.name1
  obtain ⟨g4, hg4⟩ := (hM.subL (List.sublist_cons_self _ _)).name1
  obtain ⟨g3, hg3⟩ := (hM.subL (List.Sublist.cons _ (List.sublist_cons_self _ _))).name1
  obtain ⟨g2, hg2⟩ := (hM.subL (List.Sublist.cons _ (List.Sublist.cons _ (List.sublist_cons_self _ _)))).name1
  subst hg5 hg4 hg3 hg2
  have M0 := Lib.hid hM
  clear hM
  go_loopw [6] (fun i wr => ∃ j : Nat, j ≤ 35 ∧ i = .int .i64 (j : Nat) ∧ Mem [] w [⟨g5, 109, 560, chTo ch j⟩, ⟨g4, 22, 16, ndC nd0⟩, ⟨g3, 26, 562, X⟩, ⟨g2, 22, 16, ndC d⟩] [] wr) (fun i _ => 35 - (intOf i).toNat)
  case atStart => exact ⟨0, by omega, rfl, by rw [chTo_0]; exact M0.out⟩
  case round =>
    clear M0
    obtain ⟨j, hj, rfl, hM⟩ := hrel
    by_cases hlt : j < 35
    · have HPJ := Lib.hid (HPC.out j hlt)
      have HPP := Lib.hid (chTo_put ch j hlt)
      have q0 : (0 : Int) ≤ (j : Int) := Int.natCast_nonneg _
      have q1 : (j : Int) < 35 := by omega
      generalize chN ch j hlt = y at HPJ HPP
      generalize hE2 : chTo ch (j + 1) = E2 at HPP
      replace hE2 := Lib.hid hE2
      generalize chTo ch j = E1 at HPP hM
      go_wp2_with (first | ((with_reducible refine at_load ?_); refine slp hM ?_ (hX := HPJ.out) (hty := row_a16)) | ((with_reducible refine at_store ?_); refine slt hM ?_ (hs := ndC_size _) (hty := row_rva) (hX := HPP.out); clear hM; intro wx hM))
      exact ⟨⟨j + 1, by omega, by go_num, by rw [hE2.out]; exact hM⟩, by simp [intOf]; omega⟩
    · obtain rfl : j = 35 := by omega
      rw [chTo_35] at hM
      go_upto_region 6 with fail
      refine wp_region_allHM hM (HeldM [⟨g5, 109, 560, chC ch⟩, ⟨g3, 26, 562, X⟩, ⟨g2, 22, 16, ndC d⟩]) (by kernel_rfl) ?_
      clear hM
      intro wd hM
      have hS := HeldM.of (hM.subL (L' := [⟨g5, 109, 560, chC ch⟩, ⟨g3, 26, 562, X⟩, ⟨g2, 22, 16, ndC d⟩]) (List.Sublist.cons_cons _ (List.Sublist.cons _ (List.Sublist.refl _))))
      refine wpAllH_takes [0, 2, 1, 3, 4, 5] (by kernel_rfl) (fun _ _ _ _ _ h => h) hS (by kernel_rfl) ?_
      simp only [pickOps, List.filterMap_cons, List.filterMap_nil, List.getElem?_cons_zero, List.getElem?_cons_succ]
      repeat ((with_reducible apply wpHeld_step); (· rfl); (· (intro w hSw; first | (go_simp; rfl) | ((obtain ⟨_, _, _, hM'⟩ := hSw; first | exact yields_load (C := fun _ => True) (sqc hM' (hv := H0.out)) rfl | exact yields_load (C := fun _ => True) (sql hM' (hty := row_v35)) rfl | exact yields_load (C := fun _ => True) (sql hM' (hty := row_a16)) rfl)))); intro K hK; go_simp; (with_reducible refine hK _ ?_); clear hK K)
      refine wpHeld_nil ?_
      refine wpAllH_one 6 rfl (by kernel_rfl) ?_
      go_wp2_with fail
      refine (HL.out _).mono ?_
      rintro e w1 ⟨rfl, hb⟩
      replace hM := hM.step hb
      clear hb hS
      have hS := HeldM.of (hM.subL (L' := [⟨g5, 109, 560, chC ch⟩, ⟨g3, 26, 562, X⟩, ⟨g2, 22, 16, ndC d⟩]) (List.Sublist.cons_cons _ (List.Sublist.cons _ (List.Sublist.refl _))))
      go_wp2_with fail
      refine then_normal ⟨hS, ?_⟩
      refine wpAllH_one 7 rfl (by kernel_rfl) ?_
      go_wp2_with fail
      refine (HCO.out _).mono ?_
      rintro e w1 ⟨rfl, hb⟩
      replace hM := hM.step hb
      clear hb hS
      have hS := HeldM.of (hM.subL (L' := [⟨g5, 109, 560, chC ch⟩, ⟨g3, 26, 562, X⟩, ⟨g2, 22, 16, ndC d⟩]) (List.Sublist.cons_cons _ (List.Sublist.cons _ (List.Sublist.refl _))))
      go_wp2_with fail
      refine then_normal ⟨hS, ?_⟩
      refine wpAllH_one 8 rfl (by kernel_rfl) ?_
      refine slw hM ?_ (hs := ndC_size _) (hty := row_a16)
      clear hM hS
      intro wy hM
      have hS := HeldM.of (hM.subL (L' := [⟨g5, 109, 560, chC ch⟩, ⟨g3, 26, 562, X⟩, ⟨g2, 22, 16, ndC d⟩]) (List.Sublist.cons_cons _ (List.Sublist.cons _ (List.Sublist.refl _))))
      refine wpList_then ⟨hS, ?_⟩
      refine wpAllH_done (by kernel_rfl) ?_
      go_wp2_with fail
      exact bodyPost_ret (results_mem_cell hM rfl (by rfl) (by repeat (first | exact List.Mem.head _ | apply List.Mem.tail)) row_a16) rfl ⟨rfl, hM.below⟩
end Go.Proofs.YtdnnjgjaffkdfaaDoor
