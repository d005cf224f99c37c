/- Contract of the reference's Split. Condition: a digest of 16 bytes. -/
import Derived.Test.YtpigmibaeoceaaaDoorLow
import Derived.RegionTactic
import Derived.BigRegion
import Derived.IntWalk
namespace Go.Bul
theorem digits_put (d : List Nat) (n : Nat) (hn : n < 35) : (digits d n ++ zeros (35 - n)).set n (dig d n) = digits d (n + 1) ++ zeros (35 - (n + 1)) := by
  rw [digits_succ, List.set_append_right _ _ (by rw [digits_length]; omega), digits_length, Nat.sub_self, show 35 - n = (35 - (n + 1)) + 1 by omega, zeros, List.replicate_succ, List.set_cons_zero, List.append_assoc]
  rfl
theorem digits_nth (d : List Nat) (n i m : Nat) (h : i < n) : nth (digits d n ++ zeros m) i = dig d i := by
  unfold nth
  rw [getD_left _ _ _ (by rw [digits_length]; exact h), digits_getD d n i h]
end Go.Bul
namespace Go.Proofs.YtpigmibaeoceaaaDoor
open Go Go.RowKit Go.Bul
theorem split_eq' (d : List Nat) : (((digits d 32 ++ zeros 3).set 32 (cks d 32 / 256)).set 33 (cks d 32 / 16 % 16)).set 34 (cks d 32 % 16) = split d := split_eq d
set_option maxRecDepth 20000 in
set_option maxHeartbeats 1000000 in
theorem rsplit_any (d : List Nat) (w : World) (hl : d.length = 16) (hb : Bytes d) :
    Calls Tryd.prog 19 #[.agg (cellsOf .u8 d)] w fun e w' => e = .returned (.agg (cellsOf .i64 (split d))) ∧ Below w.heap.size w w' := by
  have hM := Mem.start [] w
  go_enter Tryd.func19, Tryd.ntmps19
  go_wp2_with (first | ((with_reducible refine at_load_g ?_ ?_); (· rfl); first | (refine wpList_mem_load hM rfl _ _ (by rfl) _ (by rfl) _ _ _ (by repeat (first | exact List.Mem.head _ | apply List.Mem.tail)) (by first | exact row_a16 | exact row_i35 | exact row_val | exact row_a32 | exact row_e35 | exact row_v35 | exact row_sig | exact row_evi | exact row_half | exact row_dig | exact row_i2 | exact row_i3 | exact row_b3 | exact row_h2 | exact row_pair) ?_) | (refine wpList_mem_num hM rfl _ _ (by rfl) _ _ (by rfl) _ _ _ _ (by repeat (first | exact List.Mem.head _ | apply List.Mem.tail)) (by first | exact one_u8 | exact one_int | exact one_u32 | exact one_bool | exact one_errno | exact one_u16 | exact one_sl) (by omega) ?_)) | ((with_reducible refine at_load ?_); first | (refine wpList_mem_load hM rfl _ _ (by rfl) _ (by rfl) _ _ _ (by repeat (first | exact List.Mem.head _ | apply List.Mem.tail)) (by first | exact row_a16 | exact row_i35 | exact row_val | exact row_a32 | exact row_e35 | exact row_v35 | exact row_sig | exact row_evi | exact row_half | exact row_dig | exact row_i2 | exact row_i3 | exact row_b3 | exact row_h2 | exact row_pair) ?_) | (refine wpList_mem_num hM rfl _ _ (by rfl) _ _ (by rfl) _ _ _ _ (by repeat (first | exact List.Mem.head _ | apply List.Mem.tail)) (by first | exact one_u8 | exact one_int | exact one_u32 | exact one_bool | exact one_errno | exact one_u16 | exact one_sl) (by omega) ?_)) | ((with_reducible refine at_store ?_); first | (refine wpList_mem_store hM rfl _ _ _ (by rfl) _ (by rfl) _ (by rfl) _ _ _ _ (by repeat (first | exact UpdL.head _ _ _ _ _ | apply UpdL.tail)) (by first | exact row_a16 | exact row_i35 | exact row_val | exact row_a32 | exact row_e35 | exact row_v35 | exact row_sig | exact row_evi | exact row_half | exact row_dig | exact row_i2 | exact row_i3 | exact row_b3 | exact row_h2 | exact row_pair) (by first | assumption | (simp; done) | (simp only [cellsOf_size]; first | assumption | exact half_length _ | exact split_length _ | exact firstV_length _ _ _ | exact stepV_length _ _ _ _ | exact valuesV_length _ _ _) | (simp [*]; done)) (by first | exact vals_one _ _ | exact evc_one | (simp [Value.oneCell']; done)) rfl ?_; clear hM; intro wx hM) | (refine wpList_mem_setnum hM rfl _ _ _ (by rfl) _ _ (by rfl) _ _ (by rfl) _ _ _ _ (by repeat (first | exact UpdL.head _ _ _ _ _ | apply UpdL.tail)) (by first | exact one_u8 | exact one_int | exact one_u32 | exact one_bool | exact one_errno | exact one_u16 | exact one_sl) (by omega) _ (by first | rfl | exact (Int.toNat_of_nonneg (by omega)).symm) rfl ?_; clear hM; intro wx hM)) | ((with_reducible refine at_alloc ?_); refine wpList_mem_zero hM rfl _ (by rfl) _ _ (by first | exact zero_a16 | exact zero_i35 | exact zero_i35' | exact zero_val | exact zero_a32 | exact zero_a32' | exact zero_e35 | exact zero_v35 | exact zero_sig | exact zero_evi | exact zero_half | exact zero_dig | exact zero_int | exact zero_u8 | exact zero_i2 | exact zero_i3 | exact zero_b3 | exact zero_h2 | exact zero_pair) ?_; clear hM; intro gx wx hM) | ((with_reducible refine at_box ?_); refine wpList_mem_box hM rfl _ _ (by rfl) _ (by rfl) _ (by first | exact row_a16 | exact row_i35 | exact row_val | exact row_a32 | exact row_e35 | exact row_v35 | exact row_sig | exact row_evi | exact row_half | exact row_dig | exact row_i2 | exact row_i3 | exact row_b3 | exact row_h2 | exact row_pair) (by first | assumption | (simp; done) | (simp only [cellsOf_size]; first | assumption | exact half_length _ | exact split_length _ | exact firstV_length _ _ _ | exact stepV_length _ _ _ _ | exact valuesV_length _ _ _) | (simp [*]; done)) ?_; clear hM; intro gx wx hM))
  obtain ⟨g2, rfl⟩ := hM.name1
  obtain ⟨g1, rfl⟩ := hM.name2
  obtain ⟨g0, rfl⟩ := hM.name3
  have M0 := Lib.hid hM
  clear hM
  go_loopw [4, 5] (fun s i wr => ∃ k : Nat, k ≤ 16 ∧ i = .int .i64 (k : Nat) ∧ s = .int .i64 (cks d (2 * k) : Nat) ∧ Mem [] w [⟨g2, 56, 35, cellsOf .i64 (digits d (2 * k) ++ zeros (35 - 2 * k))⟩, ⟨g1, 56, 35, cellsOf .i64 (zeros 35)⟩, ⟨g0, 22, 16, cellsOf .u8 d⟩] [] wr) (fun _ i _ => 16 - (intOf i).toNat)
  case atStart => exact ⟨0, by omega, rfl, rfl, M0.out⟩
  case round =>
    obtain ⟨k, hk, rfl, rfl, hM⟩ := hrel
    obtain ⟨C, hC⟩ : ∃ C, C = cks d (2 * k) := ⟨_, rfl⟩
    have hCl : C ≤ 480 := by rw [hC]; have := cks_le d (2 * k); omega
    by_cases hlt : k < 16
    · have hk' : (k : Int) < 16 := by omega
      obtain ⟨D, hD⟩ : ∃ D, D = digits d (2 * k) ++ zeros (35 - 2 * k) := ⟨_, rfl⟩
      have hDl : D.length = 35 := by rw [hD, List.length_append, digits_length, zeros_length]; omega
      rw [← hD] at hM
      rw [← hC]
      have hx := hb.getD k
      obtain ⟨x, hxe⟩ : ∃ x, x = d.getD k 0 := ⟨_, rfl⟩
      have hd0 : dig d (2 * k) = x / 16 := by unfold dig; rw [if_pos (by omega), show 2 * k / 2 = k by omega, hxe]
      have hd1 : dig d (2 * k + 1) = x % 16 := by unfold dig; rw [if_neg (by omega), show (2 * k + 1) / 2 = k by omega, hxe]
      have cd : wr.cell? ⟨g0, k, none⟩ = some (.int .u8 (x : Nat)) := by rw [hxe]; exact (hM.blk (b := ⟨g0, _, _, _⟩) (by repeat (first | exact List.Mem.head _ | apply List.Mem.tail))).num (by omega)
      have c1 : wr.cell? ⟨g2, 2 * k, none⟩ = some (.int .i64 (D.getD (2 * k) 0 : Nat)) := (hM.blk (b := ⟨g2, _, _, _⟩) (by repeat (first | exact List.Mem.head _ | apply List.Mem.tail))).num (by omega)
      have c2 : wr.cell? ⟨g2, 2 * k + 1, none⟩ = some (.int .i64 (D.getD (2 * k + 1) 0 : Nat)) := (hM.blk (b := ⟨g2, _, _, _⟩) (by repeat (first | exact List.Mem.head _ | apply List.Mem.tail))).num (by omega)
      have f1 : wr.frozen? ⟨g2, 2 * k, none⟩ = false := (hM.blk (b := ⟨g2, _, _, _⟩) (by repeat (first | exact List.Mem.head _ | apply List.Mem.tail))).free _
      have f2 : wr.frozen? ⟨g2, 2 * k + 1, none⟩ = false := (hM.blk (b := ⟨g2, _, _, _⟩) (by repeat (first | exact List.Mem.head _ | apply List.Mem.tail))).free _
      have n1 : g2 ≠ g0 := Mem.apart2 (L1 := []) (L2 := [_]) hM
      have n2 := Ne.symm n1
      rw [← hxe] at hx
      have hE : (D.set (2 * k) (x / 16)).set (2 * k + 1) (x % 16) = digits d (2 * (k + 1)) ++ zeros (35 - 2 * (k + 1)) := by
        rw [← hd0, ← hd1, hD, digits_put d (2 * k) (by omega), digits_put d (2 * k + 1) (by omega)]
        rfl
      have hCn : C + (30 - x / 16 - x % 16) = cks d (2 * (k + 1)) := by
        rw [show 2 * (k + 1) = 2 * k + 1 + 1 by omega]
        simp only [cks]
        rw [hd0, hd1, ← hC]
        omega
      have hN0 := digits_nth d (2 * (k + 1)) (2 * k) (35 - 2 * (k + 1)) (by omega)
      have hN1 := digits_nth d (2 * (k + 1)) (2 * k + 1) (35 - 2 * (k + 1)) (by omega)
      rw [hd0] at hN0
      rw [hd1] at hN1
      obtain ⟨E, hEE⟩ : ∃ E, E = digits d (2 * (k + 1)) ++ zeros (35 - 2 * (k + 1)) := ⟨_, rfl⟩
      rw [← hEE] at hN0 hN1 hE
      have H := Lib.hid (And.intro hE (And.intro hEE (And.intro hCn (And.intro hN0 hN1))))
      clear hD hDl hxe hE hEE hCn hN0 hN1 hC hd0 hd1
      go_wp2_with fail
      go_region
      have q1 : (x : Int) / 16 = ((x / 16 : Nat) : Int) := by omega
      have q2 : (x : Int) % 16 = ((x % 16 : Nat) : Int) := by omega
      rw [q1, q2]
      have hM2 := ((hM.setCell (UpdL.head _ _ _ _ _) (2 * k) (.int .i64 ((x / 16 : Nat) : Int))).setCell (UpdL.head _ _ _ _ _) (2 * k + 1) (.int .i64 ((x % 16 : Nat) : Int))).drew
      rw [cellsOf_set, cellsOf_set, H.out.1] at hM2
      generalize hw5 : ((wr.setCell ⟨g2, 2 * k, none⟩ (.int .i64 ((x / 16 : Nat) : Int))).setCell ⟨g2, 2 * k + 1, none⟩ (.int .i64 ((x % 16 : Nat) : Int))).drew = w5 at hM2 ⊢
      clear hw5 hM cd c1 c2 f1 f2 q1 q2
      have hM := hM2
      clear hM2
      have b0 : nth E (2 * k) ≤ 15 := by rw [H.out.2.2.2.1]; omega
      have b1 : nth E (2 * k + 1) ≤ 15 := by rw [H.out.2.2.2.2]; omega
      have l1 : (0 : Int) ≤ 2 * (k : Int) := by omega
      have l2 : 2 * (k : Int) < 35 := by omega
      have l3 : (0 : Int) ≤ 2 * (k : Int) + 1 := by omega
      have l4 : 2 * (k : Int) + 1 < 35 := by omega
      have t1 : (2 * (k : Int)).toNat = 2 * k := by omega
      have t2 : (2 * (k : Int) + 1).toNat = 2 * k + 1 := by omega
      have w1 : IntKind.i64.wrap (2 * (k : Int)) = 2 * (k : Int) := IntWalk.i64_in _ (by omega)
      have w2 : IntKind.i64.wrap (2 * (k : Int) + 1) = 2 * (k : Int) + 1 := IntWalk.i64_in _ (by omega)
      have w3 : IntKind.i64.wrap (30 - (nth E (2 * k) : Int)) = 30 - (nth E (2 * k) : Int) := IntWalk.i64_in _ (by omega)
      have w4 : IntKind.i64.wrap (30 - (nth E (2 * k) : Int) - (nth E (2 * k + 1) : Int)) = 30 - (nth E (2 * k) : Int) - (nth E (2 * k + 1) : Int) := IntWalk.i64_in _ (by omega)
      have w5 : IntKind.i64.wrap ((C : Int) + (30 - (nth E (2 * k) : Int) - (nth E (2 * k + 1) : Int))) = (C : Int) + (30 - (nth E (2 * k) : Int) - (nth E (2 * k + 1) : Int)) := IntWalk.i64_in _ (by omega)
      go_wp2_with fail
      refine Go.Bul.wp_region_class_tail (Mem _ w _ _) 13 (by kernel_rfl) (by kernel_rfl) hM.drew ?_
      simp only [List.take_succ_cons, List.take_zero, List.drop_succ_cons, List.drop_zero]
      repeat (refine wpQuiet_step (fun K hK => ?_); (first | refine quiet_some rfl ?_ | refine quiet_wanted rfl ?_); apply Exists.intro; refine ⟨fun w' hM' => ?_, ?_⟩; (· first | exact quietAt_mem_load hM' _ _ (by rfl) _ (by rfl) _ _ _ (by repeat (first | exact List.Mem.head _ | apply List.Mem.tail)) (by first | exact row_a16 | exact row_i35 | exact row_val | exact row_a32 | exact row_e35 | exact row_v35 | exact row_sig | exact row_evi | exact row_half | exact row_dig | exact row_i2 | exact row_i3 | exact row_b3 | exact row_h2 | exact row_pair) | exact quietAt_mem_num hM' _ _ (by rfl) _ _ (by rfl) _ _ _ _ (by repeat (first | exact List.Mem.head _ | apply List.Mem.tail)) (by first | exact one_u8 | exact one_int | exact one_u32 | exact one_bool | exact one_errno | exact one_u16 | exact one_sl) (by omega) | exact quietAt_mem_cell hM' _ _ (by rfl) _ _ (by rfl) _ _ _ (by repeat (first | exact List.Mem.head _ | apply List.Mem.tail)) (by first | exact one_u8 | exact one_int | exact one_u32 | exact one_bool | exact one_errno | exact one_u16 | exact one_sl) _ (by rfl) | exact quietAt_mem_piece hM' _ _ (by rfl) _ _ (by rfl) _ _ _ _ (by repeat (first | exact List.Mem.head _ | apply List.Mem.tail)) (by first | exact row_a16 | exact row_i35 | exact row_val | exact row_a32 | exact row_e35 | exact row_v35 | exact row_sig | exact row_evi | exact row_half | exact row_dig | exact row_i2 | exact row_i3 | exact row_b3 | exact row_h2 | exact row_pair) (by omega) | (go_simp; rfl) | (go_simp; with_reducible refine at_calls ?_; first | fail)); go_simp; refine hK _ ?_; clear hK K)
      clear l1 l2 l3 l4 t1 t2 w1 w2 w3 w4 w5
      refine wpQuiet_nil ?_
      intro wx hM
      go_wp2_with fail
      obtain ⟨_, hEE, hCn, hN0, hN1⟩ := H.out
      exact ⟨⟨k + 1, by omega, by go_num, by rw [← hCn, hN0, hN1]; go_num, by rw [← hEE]; exact hM⟩, by simp [intOf]; omega⟩
    · obtain rfl : k = 16 := by omega
      obtain ⟨D, hD⟩ : ∃ D, D = digits d 32 ++ zeros 3 := ⟨_, rfl⟩
      have hDl : D.length = 35 := by rw [hD, List.length_append, digits_length, zeros_length]
      rw [show 2 * 16 = 32 from rfl, show 35 - 32 = 3 from rfl, ← hD] at hM
      rw [show 2 * 16 = 32 from rfl] at hC ⊢
      rw [← hC]
      have H := Lib.hid (And.intro hD hC)
      clear hD hC
      go_wp2_with (first | ((with_reducible refine at_load_g ?_ ?_); (· rfl); first | (refine wpList_mem_load hM rfl _ _ (by rfl) _ (by rfl) _ _ _ (by repeat (first | exact List.Mem.head _ | apply List.Mem.tail)) (by first | exact row_a16 | exact row_i35 | exact row_val | exact row_a32 | exact row_e35 | exact row_v35 | exact row_sig | exact row_evi | exact row_half | exact row_dig | exact row_i2 | exact row_i3 | exact row_b3 | exact row_h2 | exact row_pair) ?_) | (refine wpList_mem_num hM rfl _ _ (by rfl) _ _ (by rfl) _ _ _ _ (by repeat (first | exact List.Mem.head _ | apply List.Mem.tail)) (by first | exact one_u8 | exact one_int | exact one_u32 | exact one_bool | exact one_errno | exact one_u16 | exact one_sl) (by omega) ?_)) | ((with_reducible refine at_load ?_); first | (refine wpList_mem_load hM rfl _ _ (by rfl) _ (by rfl) _ _ _ (by repeat (first | exact List.Mem.head _ | apply List.Mem.tail)) (by first | exact row_a16 | exact row_i35 | exact row_val | exact row_a32 | exact row_e35 | exact row_v35 | exact row_sig | exact row_evi | exact row_half | exact row_dig | exact row_i2 | exact row_i3 | exact row_b3 | exact row_h2 | exact row_pair) ?_) | (refine wpList_mem_num hM rfl _ _ (by rfl) _ _ (by rfl) _ _ _ _ (by repeat (first | exact List.Mem.head _ | apply List.Mem.tail)) (by first | exact one_u8 | exact one_int | exact one_u32 | exact one_bool | exact one_errno | exact one_u16 | exact one_sl) (by omega) ?_)) | ((with_reducible refine at_store ?_); first | (refine wpList_mem_store hM rfl _ _ _ (by rfl) _ (by rfl) _ (by rfl) _ _ _ _ (by repeat (first | exact UpdL.head _ _ _ _ _ | apply UpdL.tail)) (by first | exact row_a16 | exact row_i35 | exact row_val | exact row_a32 | exact row_e35 | exact row_v35 | exact row_sig | exact row_evi | exact row_half | exact row_dig | exact row_i2 | exact row_i3 | exact row_b3 | exact row_h2 | exact row_pair) (by first | assumption | (simp; done) | (simp only [cellsOf_size]; first | assumption | exact half_length _ | exact split_length _ | exact firstV_length _ _ _ | exact stepV_length _ _ _ _ | exact valuesV_length _ _ _) | (simp [*]; done)) (by first | exact vals_one _ _ | exact evc_one | (simp [Value.oneCell']; done)) rfl ?_; clear hM; intro wx hM) | (refine wpList_mem_setnum hM rfl _ _ _ (by rfl) _ _ (by rfl) _ _ (by rfl) _ _ _ _ (by repeat (first | exact UpdL.head _ _ _ _ _ | apply UpdL.tail)) (by first | exact one_u8 | exact one_int | exact one_u32 | exact one_bool | exact one_errno | exact one_u16 | exact one_sl) (by omega) _ (by first | rfl | exact (Int.toNat_of_nonneg (by omega)).symm) rfl ?_; clear hM; intro wx hM)) | ((with_reducible refine at_alloc ?_); refine wpList_mem_zero hM rfl _ (by rfl) _ _ (by first | exact zero_a16 | exact zero_i35 | exact zero_i35' | exact zero_val | exact zero_a32 | exact zero_a32' | exact zero_e35 | exact zero_v35 | exact zero_sig | exact zero_evi | exact zero_half | exact zero_dig | exact zero_int | exact zero_u8 | exact zero_i2 | exact zero_i3 | exact zero_b3 | exact zero_h2 | exact zero_pair) ?_; clear hM; intro gx wx hM) | ((with_reducible refine at_box ?_); refine wpList_mem_box hM rfl _ _ (by rfl) _ (by rfl) _ (by first | exact row_a16 | exact row_i35 | exact row_val | exact row_a32 | exact row_e35 | exact row_v35 | exact row_sig | exact row_evi | exact row_half | exact row_dig | exact row_i2 | exact row_i3 | exact row_b3 | exact row_h2 | exact row_pair) (by first | assumption | (simp; done) | (simp only [cellsOf_size]; first | assumption | exact half_length _ | exact split_length _ | exact firstV_length _ _ _ | exact stepV_length _ _ _ _ | exact valuesV_length _ _ _) | (simp [*]; done)) ?_; clear hM; intro gx wx hM))
      have e : ((D.set 32 (C / 256)).set 33 (C / 16 % Int.natAbs 16)).set 34 (C % Int.natAbs 16) = split d := by rw [H.out.1, H.out.2]; exact split_eq' d
      rw [e] at hM
      exact bodyPost_ret (results_mem_cell hM rfl (by rfl) (by repeat (first | exact List.Mem.head _ | apply List.Mem.tail)) (by first | exact row_a16 | exact row_i35 | exact row_val | exact row_a32 | exact row_e35 | exact row_v35 | exact row_sig | exact row_evi | exact row_half | exact row_dig | exact row_i2 | exact row_i3 | exact row_b3 | exact row_h2 | exact row_pair)) rfl ⟨rfl, hM.below⟩
end Go.Proofs.YtpigmibaeoceaaaDoor
