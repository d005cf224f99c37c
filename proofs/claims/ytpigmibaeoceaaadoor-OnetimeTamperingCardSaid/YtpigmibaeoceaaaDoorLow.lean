/- Contracts of onetime.Lower and of the reference's. Condition: digests of 16 bytes. -/
import Derived.Test.YtpigmibaeoceaaaDoorSpl
import Derived.Test.YtpigmibaeoceaaaDoorZf
import Derived.Test.YtpigmibaeoceaaaDoorZh
import Derived.Test.YtpigmibaeoceaaaDoorZm
namespace Go.Bul
theorem lower_found {a b : List Nat} {k : Nat} (h : lower a b k = none) (hk : nth (split b) k < nth (split a) k) : ∀ m, lower a b (k + 1 + m) = some k
  | 0 => by rw [Nat.add_zero, lower_succ, h, if_pos (show (split b).getD k 0 < (split a).getD k 0 from hk)]; rfl
  | m + 1 => by rw [← Nat.add_assoc, lower_succ, lower_found h hk m]; rfl
theorem lower_next {a b : List Nat} {k : Nat} (h : lower a b k = none) (hk : ¬ nth (split b) k < nth (split a) k) : lower a b (k + 1) = none := by
  rw [lower_succ, h, if_neg (show ¬ (split b).getD k 0 < (split a).getD k 0 from hk)]; rfl
end Go.Bul
namespace Go.Proofs.YtpigmibaeoceaaaDoor
open Go Go.RowKit Go.Bul
/-- The two results of Lower. -/
def lowRes : Option Nat → Value
  | some c => .tuple #[.int .i64 (c : Nat), .bool true]
  | none => .tuple #[.int .i64 0, .bool false]
set_option maxRecDepth 20000 in
theorem lower_any (a b : List Nat) (w : World) (ha : a.length = 16) (hA : Bytes a) (hb : b.length = 16) (hB : Bytes b) :
    Calls Tryd.prog 22 #[.agg (cellsOf .u8 a), .agg (cellsOf .u8 b)] w fun e w' => e = .returned (lowRes (lower a b 35)) ∧ Below w.heap.size w w' := by
  have hM := Mem.start [] w
  have sA := fun w => split_any a w ha hA
  have sB := fun w => split_any b w hb hB
  have hlf := fun (k : Nat) (h : lower a b k = none) (hk : nth (split b) k < nth (split a) k) => lower_found h hk
  have hln := fun (k : Nat) (h : lower a b k = none) (hk : ¬ nth (split b) k < nth (split a) k) => lower_next h hk
  obtain ⟨x, hx⟩ : ∃ x, x = split a := ⟨_, rfl⟩
  obtain ⟨y, hy⟩ : ∃ y, y = split b := ⟨_, rfl⟩
  have hxl : x.length = 35 := by rw [hx, split_length]
  have hyl : y.length = 35 := by rw [hy, split_length]
  rw [← hx, ← hy] at hlf hln
  rw [← hx] at sA
  rw [← hy] at sB
  obtain ⟨lo, hlo⟩ : ∃ lo, lo = lower a b := ⟨_, rfl⟩
  have hl0 : lo 0 = none := by rw [hlo]; rfl
  rw [← hlo] at hlf hln ⊢
  have HL := Lib.hid (And.intro hlf (And.intro hln hl0))
  have SA := Lib.hid sA
  have SB := Lib.hid sB
  clear hlf hln hx hy sA sB hlo hl0
  go_enter Tryd.func22, Tryd.ntmps22
  go_wp2_with (first | ((with_reducible refine at_load_g ?_ ?_); (· rfl); first | (refine wpList_mem_load hM rfl _ _ (by rfl) _ (by rfl) _ _ _ (by repeat (first | exact List.Mem.head _ | apply List.Mem.tail)) (by first | exact row_a16 | exact row_i35 | exact row_val | exact row_a32 | exact row_e35 | exact row_v35 | exact row_sig | exact row_evi | exact row_half | exact row_dig | exact row_i2 | exact row_i3 | exact row_b3 | exact row_h2 | exact row_pair) ?_) | (refine wpList_mem_num hM rfl _ _ (by rfl) _ _ (by rfl) _ _ _ _ (by repeat (first | exact List.Mem.head _ | apply List.Mem.tail)) (by first | exact one_u8 | exact one_int | exact one_u32 | exact one_bool | exact one_errno | exact one_u16 | exact one_sl) (by omega) ?_)) | ((with_reducible refine at_load ?_); first | (refine wpList_mem_load hM rfl _ _ (by rfl) _ (by rfl) _ _ _ (by repeat (first | exact List.Mem.head _ | apply List.Mem.tail)) (by first | exact row_a16 | exact row_i35 | exact row_val | exact row_a32 | exact row_e35 | exact row_v35 | exact row_sig | exact row_evi | exact row_half | exact row_dig | exact row_i2 | exact row_i3 | exact row_b3 | exact row_h2 | exact row_pair) ?_) | (refine wpList_mem_num hM rfl _ _ (by rfl) _ _ (by rfl) _ _ _ _ (by repeat (first | exact List.Mem.head _ | apply List.Mem.tail)) (by first | exact one_u8 | exact one_int | exact one_u32 | exact one_bool | exact one_errno | exact one_u16 | exact one_sl) (by omega) ?_)) | ((with_reducible refine at_store ?_); first | (refine wpList_mem_store hM rfl _ _ _ (by rfl) _ (by rfl) _ (by rfl) _ _ _ _ (by repeat (first | exact UpdL.head _ _ _ _ _ | apply UpdL.tail)) (by first | exact row_a16 | exact row_i35 | exact row_val | exact row_a32 | exact row_e35 | exact row_v35 | exact row_sig | exact row_evi | exact row_half | exact row_dig | exact row_i2 | exact row_i3 | exact row_b3 | exact row_h2 | exact row_pair) (by first | assumption | (simp; done) | (simp only [cellsOf_size]; first | assumption | exact half_length _ | exact split_length _ | exact firstV_length _ _ _ | exact stepV_length _ _ _ _ | exact valuesV_length _ _ _) | (simp [*]; done)) (by first | exact vals_one _ _ | exact evc_one | (simp [Value.oneCell']; done)) rfl ?_; clear hM; intro wx hM) | (refine wpList_mem_setnum hM rfl _ _ _ (by rfl) _ _ (by rfl) _ _ (by rfl) _ _ _ _ (by repeat (first | exact UpdL.head _ _ _ _ _ | apply UpdL.tail)) (by first | exact one_u8 | exact one_int | exact one_u32 | exact one_bool | exact one_errno | exact one_u16 | exact one_sl) (by omega) _ (by first | rfl | exact (Int.toNat_of_nonneg (by omega)).symm) rfl ?_; clear hM; intro wx hM)) | ((with_reducible refine at_alloc ?_); refine wpList_mem_zero hM rfl _ (by rfl) _ _ (by first | exact zero_a16 | exact zero_i35 | exact zero_i35' | exact zero_val | exact zero_a32 | exact zero_a32' | exact zero_e35 | exact zero_v35 | exact zero_sig | exact zero_evi | exact zero_half | exact zero_dig | exact zero_int | exact zero_u8 | exact zero_i2 | exact zero_i3 | exact zero_b3 | exact zero_h2 | exact zero_pair) ?_; clear hM; intro gx wx hM) | ((with_reducible refine at_box ?_); refine wpList_mem_box hM rfl _ _ (by rfl) _ (by rfl) _ (by first | exact row_a16 | exact row_i35 | exact row_val | exact row_a32 | exact row_e35 | exact row_v35 | exact row_sig | exact row_evi | exact row_half | exact row_dig | exact row_i2 | exact row_i3 | exact row_b3 | exact row_h2 | exact row_pair) (by first | assumption | (simp; done) | (simp only [cellsOf_size]; first | assumption | exact half_length _ | exact split_length _ | exact firstV_length _ _ _ | exact stepV_length _ _ _ _ | exact valuesV_length _ _ _) | (simp [*]; done)) ?_; clear hM; intro gx wx hM))
  refine wp_two_calls (by kernel_rfl) hM 9 10 11 12 6 7 2 3 rfl (by kernel_rfl) ⟨⟨rfl, rfl, rfl, rfl⟩, rfl, rfl, rfl, rfl⟩ ⟨⟨rfl, rfl, rfl, rfl⟩, rfl, rfl, rfl, rfl⟩ _ _ _ _ ⟨⟨rfl, rfl, rfl, rfl⟩, rfl, rfl, rfl, rfl⟩ ⟨⟨by kernel_rfl, by kernel_rfl⟩, ⟨by kernel_rfl, by kernel_rfl⟩, by kernel_rfl, by kernel_rfl⟩ (by decide) (by decide) (by decide) (by simp) Tryd.call21 rfl rfl (by repeat (first | exact List.Mem.head _ | apply List.Mem.tail)) (by repeat (first | exact List.Mem.head _ | apply List.Mem.tail)) row_a16 zero_i35' row_i35 (by simp [hxl]) (by simp [hyl]) (vals_one _ _) (vals_one _ _) SA.out SB.out ?_
  intro gX gY wx hM
  go_simp
  go_wp2_with fail
  have M0 := Lib.hid hM
  clear hM
  obtain ⟨gb, rfl⟩ := M0.out.name3
  obtain ⟨ga, rfl⟩ := M0.out.name4
  go_loopw [13] (fun i wr => ∃ k : Nat, k ≤ 35 ∧ i = .int .i64 (k : Nat) ∧ lo k = none ∧ Mem [] w [⟨gX, 56, 35, cellsOf .i64 x⟩, ⟨gY, 56, 35, cellsOf .i64 y⟩, ⟨gb, 22, 16, cellsOf .u8 b⟩, ⟨ga, 22, 16, cellsOf .u8 a⟩] [] wr) (fun i _ => 35 - (intOf i).toNat)
  case atStart => exact ⟨0, by omega, rfl, HL.out.2.2, M0.out⟩
  case round =>
    obtain ⟨k, hk, rfl, hno, hM⟩ := hrel
    have HN := Lib.hid hno
    clear hno
    by_cases hlt : k < 35
    · have hk' : (k : Int) < 35 := by omega
      by_cases hc : nth y k < nth x k
      · have e1 : lo 35 = some k := by have := HL.out.1 k HN.out hc (35 - (k + 1)); rwa [show k + 1 + (35 - (k + 1)) = 35 by omega] at this
        have E1 := Lib.hid e1
        have hc' : decide ((nth y k : Int) < (nth x k : Int)) = true := by simpa using hc
        have hc2 : decide (nth y k < nth x k) = true := by simpa using hc
        clear e1
        go_wp2_with fail
        refine Go.Bul.wp_region_class (Mem _ w _ _) (by kernel_rfl) (by kernel_rfl) hM.drew ?_
        repeat (refine wpQuiet_step (fun K hK => ?_); (first | refine quiet_some rfl ?_ | refine quiet_wanted rfl ?_); apply Exists.intro; refine ⟨fun w' hM' => ?_, ?_⟩; (· first | exact quietAt_mem_load hM' _ _ (by rfl) _ (by rfl) _ _ _ (by repeat (first | exact List.Mem.head _ | apply List.Mem.tail)) (by first | exact row_a16 | exact row_i35 | exact row_val | exact row_a32 | exact row_e35 | exact row_v35 | exact row_sig | exact row_evi | exact row_half | exact row_dig | exact row_i2 | exact row_i3 | exact row_b3 | exact row_h2 | exact row_pair) | exact quietAt_mem_num hM' _ _ (by rfl) _ _ (by rfl) _ _ _ _ (by repeat (first | exact List.Mem.head _ | apply List.Mem.tail)) (by first | exact one_u8 | exact one_int | exact one_u32 | exact one_bool | exact one_errno | exact one_u16 | exact one_sl) (by omega) | exact quietAt_mem_cell hM' _ _ (by rfl) _ _ (by rfl) _ _ _ (by repeat (first | exact List.Mem.head _ | apply List.Mem.tail)) (by first | exact one_u8 | exact one_int | exact one_u32 | exact one_bool | exact one_errno | exact one_u16 | exact one_sl) _ (by rfl) | exact quietAt_mem_piece hM' _ _ (by rfl) _ _ (by rfl) _ _ _ _ (by repeat (first | exact List.Mem.head _ | apply List.Mem.tail)) (by first | exact row_a16 | exact row_i35 | exact row_val | exact row_a32 | exact row_e35 | exact row_v35 | exact row_sig | exact row_evi | exact row_half | exact row_dig | exact row_i2 | exact row_i3 | exact row_b3 | exact row_h2 | exact row_pair) (by omega) | (go_simp; rfl) | (go_simp; with_reducible refine at_calls ?_; first | fail)); go_simp; refine hK _ ?_; clear hK K)
        refine wpQuiet_nil ?_
        intro wx hM
        go_wp2_with fail
        go_ret2
        exact ⟨by rw [E1.out]; rfl, hM.below⟩
      · have e1 := HL.out.2.1 k HN.out hc
        have E1 := Lib.hid e1
        have hc' : decide ((nth y k : Int) < (nth x k : Int)) = false := by simpa using hc
        have hc2 : decide (nth y k < nth x k) = false := by simpa using hc
        clear e1
        go_wp2_with fail
        refine Go.Bul.wp_region_class (Mem _ w _ _) (by kernel_rfl) (by kernel_rfl) hM.drew ?_
        repeat (refine wpQuiet_step (fun K hK => ?_); (first | refine quiet_some rfl ?_ | refine quiet_wanted rfl ?_); apply Exists.intro; refine ⟨fun w' hM' => ?_, ?_⟩; (· first | exact quietAt_mem_load hM' _ _ (by rfl) _ (by rfl) _ _ _ (by repeat (first | exact List.Mem.head _ | apply List.Mem.tail)) (by first | exact row_a16 | exact row_i35 | exact row_val | exact row_a32 | exact row_e35 | exact row_v35 | exact row_sig | exact row_evi | exact row_half | exact row_dig | exact row_i2 | exact row_i3 | exact row_b3 | exact row_h2 | exact row_pair) | exact quietAt_mem_num hM' _ _ (by rfl) _ _ (by rfl) _ _ _ _ (by repeat (first | exact List.Mem.head _ | apply List.Mem.tail)) (by first | exact one_u8 | exact one_int | exact one_u32 | exact one_bool | exact one_errno | exact one_u16 | exact one_sl) (by omega) | exact quietAt_mem_cell hM' _ _ (by rfl) _ _ (by rfl) _ _ _ (by repeat (first | exact List.Mem.head _ | apply List.Mem.tail)) (by first | exact one_u8 | exact one_int | exact one_u32 | exact one_bool | exact one_errno | exact one_u16 | exact one_sl) _ (by rfl) | exact quietAt_mem_piece hM' _ _ (by rfl) _ _ (by rfl) _ _ _ _ (by repeat (first | exact List.Mem.head _ | apply List.Mem.tail)) (by first | exact row_a16 | exact row_i35 | exact row_val | exact row_a32 | exact row_e35 | exact row_v35 | exact row_sig | exact row_evi | exact row_half | exact row_dig | exact row_i2 | exact row_i3 | exact row_b3 | exact row_h2 | exact row_pair) (by omega) | (go_simp; rfl) | (go_simp; with_reducible refine at_calls ?_; first | fail)); go_simp; refine hK _ ?_; clear hK K)
        refine wpQuiet_nil ?_
        intro wx hM
        go_wp2_with fail
        exact ⟨⟨k + 1, by omega, by go_num, E1.out, hM⟩, by simp [intOf]; omega⟩
    · obtain rfl : k = 35 := by omega
      go_wp2_with fail
      go_ret2
      exact ⟨by rw [HN.out]; rfl, hM.below⟩
end Go.Proofs.YtpigmibaeoceaaaDoor
