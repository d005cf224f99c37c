/- Contract of onetime.Extract where both signatures lead to one public value by different ends. Contract of onetime.Extract where both signatures lead to the same ends by different values: a collision. Contract of onetime.Extract where both signatures of different digests lead to one public value: evidence that states a fact. Contract of bulletinlaw08.meet: two different values of a chain have a collision behind them, or lead to different ends. -/
import Derived.Test.YtbbdnlcjjcmllaaDoorXw
import Derived.Test.YtbbdnlcjjcmllaaDoorXu
import Derived.Test.YtbbdnlcjjcmllaaDoorXv
namespace Go.Proofs.YtbbdnlcjjcmllaaDoor.Once
open Go Go.RowKit Go.Bul Go.Bul.Hp
set_option maxRecDepth 20000 in
set_option maxHeartbeats 2000000 in
theorem extract_ends (a E b F : List Nat) (leaf : Nat) (y : Int) (w : World) (ha : a.length = 16) (hab : Bytes a) (hE : E.length = 560) (hEb : Bytes E) (hb : b.length = 16) (hbb : Bytes b) (hF : F.length = 560) (hFb : Bytes F) (hT : Tab w) (hl : leaf ≤ 65535) (hy : y = (leaf : Int))
    (hne : a ≠ b) (hr : recV leaf a E = recV leaf b F) (hls : lastV leaf a E ≠ lastV leaf b F) :
    Calls Tryd.prog 28 #[.int .i64 y, .agg (cellsOf .u8 a), .agg (cellsOf .u8 E), .agg (cellsOf .u8 b), .agg (cellsOf .u8 F)] w fun e w' => e = .returned (.tuple #[.agg (evc 3 0 0 0 (zeros 16) (zeros 16) (lastV leaf a E) (lastV leaf b F)), .int .i64 0]) ∧ Below w.heap.size w w' := by
  have hM := Mem.start [] w
  have HT := Lib.hid hT
  have r1 := fun w' => recover_yes a E leaf y w' ha hab hE hEb hl hy
  have r2 := fun w' => recover_yes b F leaf y w' hb hbb hF hFb hl hy
  have e1 := fun w' => endsOf_any a E leaf y w' ha hab hE hEb hl hy
  have e2 := fun w' => endsOf_any b F leaf y w' hb hbb hF hFb hl hy
  have hrl := recV_length leaf a E
  have hSl := lastV_length' leaf a E hE
  have hTl := lastV_length' leaf b F hF
  rw [← hr] at r2
  generalize recV leaf a E = r at r1 r2 hrl
  generalize lastV leaf a E = S at e1 hSl hls ⊢
  generalize lastV leaf b F = T at e2 hTl hls ⊢
  have hSz : (cellsOf .u8 S).size = 560 := by rw [cellsOf_size]; exact hSl
  have hTz : (cellsOf .u8 T).size = 560 := by rw [cellsOf_size]; exact hTl
  have R1 := Lib.hid r1
  have R2 := Lib.hid r2
  have EA := Lib.hid e1
  have EB := Lib.hid e2
  have ED : Hid (∀ W, (Op.equalIn 10000 23 (.agg (cellsOf .u8 a)) (.agg (cellsOf .u8 b))).run Tryd.prog W = .ok false W) := Lib.hid fun W => by rw [eq_b16 a b ha hb]; simp [hne]
  have ER : Hid (∀ W, (Op.equalIn 10000 23 (.agg (cellsOf .u8 r)) (.agg (cellsOf .u8 r))).run Tryd.prog W = .ok true W) := Lib.hid fun W => self_b16 r hrl W
  have EQ : Hid (∀ W, (Op.equalIn 10000 34 (.agg (cellsOf .u8 S)) (.agg (cellsOf .u8 T))).run Tryd.prog W = .ok false W) := Lib.hid fun W => by rw [eq_e35 S T hSl hTl W 9997]; simp [hls]
  have HB := Lib.hid (bld_ev3 3 S T hSl hTl)
  have hs0 := ev0_size
  have hsz := evc_size (k := 3) (c := 0) (f := 0) (t := 0) (⟨zeros_length _, zeros_length _, hSl, hTl⟩ : EvOk (zeros 16) (zeros 16) S T)
  clear hT hl hy r1 r2 e1 e2 hab hEb hbb hFb hne hr hls
  go_enter Tryd.func28, Tryd.ntmps28
  go_wp2_with (first | ((with_reducible refine at_load_g ?_ ?_); (· rfl); first | (refine wpList_mem_load hM rfl _ _ (by rfl) _ (by rfl) _ _ _ (by repeat (first | exact List.Mem.head _ | apply List.Mem.tail)) (by first | exact row_a16 | exact row_i35 | exact row_val | exact row_a32 | exact row_e35 | exact row_v35 | exact row_sig | exact row_evi | exact row_half | exact row_dig | exact row_i2 | exact row_i3 | exact row_b3 | exact row_h2 | exact row_pair) ?_) | (refine wpList_mem_num hM rfl _ _ (by rfl) _ _ (by rfl) _ _ _ _ (by repeat (first | exact List.Mem.head _ | apply List.Mem.tail)) (by first | exact one_u8 | exact one_int | exact one_u32 | exact one_bool | exact one_errno | exact one_u16 | exact one_sl) (by omega) ?_)) | ((with_reducible refine at_load ?_); first | (refine wpList_mem_load hM rfl _ _ (by rfl) _ (by rfl) _ _ _ (by repeat (first | exact List.Mem.head _ | apply List.Mem.tail)) (by first | exact row_a16 | exact row_i35 | exact row_val | exact row_a32 | exact row_e35 | exact row_v35 | exact row_sig | exact row_evi | exact row_half | exact row_dig | exact row_i2 | exact row_i3 | exact row_b3 | exact row_h2 | exact row_pair) ?_) | (refine wpList_mem_num hM rfl _ _ (by rfl) _ _ (by rfl) _ _ _ _ (by repeat (first | exact List.Mem.head _ | apply List.Mem.tail)) (by first | exact one_u8 | exact one_int | exact one_u32 | exact one_bool | exact one_errno | exact one_u16 | exact one_sl) (by omega) ?_)) | ((with_reducible refine at_store ?_); first | (refine wpList_mem_store hM rfl _ _ _ (by rfl) _ (by rfl) _ (by rfl) _ _ _ _ (by repeat (first | exact UpdL.head _ _ _ _ _ | apply UpdL.tail)) (by first | exact row_a16 | exact row_i35 | exact row_val | exact row_a32 | exact row_e35 | exact row_v35 | exact row_sig | exact row_evi | exact row_half | exact row_dig | exact row_i2 | exact row_i3 | exact row_b3 | exact row_h2 | exact row_pair) (by first | assumption | (simp; done) | (simp only [cellsOf_size]; first | assumption | exact half_length _ | exact split_length _ | exact firstV_length _ _ _ | exact stepV_length _ _ _ _ | exact valuesV_length _ _ _) | (simp [*]; done)) (by first | exact vals_one _ _ | exact evc_one | (simp [Value.oneCell']; done)) rfl ?_; clear hM; intro wx hM) | (refine wpList_mem_setnum hM rfl _ _ _ (by rfl) _ _ (by rfl) _ _ (by rfl) _ _ _ _ (by repeat (first | exact UpdL.head _ _ _ _ _ | apply UpdL.tail)) (by first | exact one_u8 | exact one_int | exact one_u32 | exact one_bool | exact one_errno | exact one_u16 | exact one_sl) (by omega) _ (by first | rfl | exact (Int.toNat_of_nonneg (by omega)).symm) rfl ?_; clear hM; intro wx hM)) | ((with_reducible refine at_alloc ?_); refine wpList_mem_zero hM rfl _ (by rfl) _ _ (by first | exact zero_a16 | exact zero_i35 | exact zero_i35' | exact zero_val | exact zero_a32 | exact zero_a32' | exact zero_e35 | exact zero_v35 | exact zero_sig | exact zero_evi | exact zero_half | exact zero_dig | exact zero_int | exact zero_u8 | exact zero_i2 | exact zero_i3 | exact zero_b3 | exact zero_h2 | exact zero_pair) ?_; clear hM; intro gx wx hM) | ((with_reducible refine at_box ?_); refine wpList_mem_box hM rfl _ _ (by rfl) _ (by rfl) _ (by first | exact row_a16 | exact row_i35 | exact row_val | exact row_a32 | exact row_e35 | exact row_v35 | exact row_sig | exact row_evi | exact row_half | exact row_dig | exact row_i2 | exact row_i3 | exact row_b3 | exact row_h2 | exact row_pair) (by first | assumption | (simp; done) | (simp only [cellsOf_size]; first | assumption | exact half_length _ | exact split_length _ | exact firstV_length _ _ _ | exact stepV_length _ _ _ _ | exact valuesV_length _ _ _) | (simp [*]; done)) ?_; clear hM; intro gx wx hM))
  (refine (R1.out _ (HT.out.keep hM.below)).mono ?_)
  rintro e w1 ⟨rfl, hb1⟩
  replace hM := hM.step hb1
  clear hb1
  have eD := ED.out
  go_wp2_with (first | ((with_reducible refine at_load_g ?_ ?_); (· rfl); first | (refine wpList_mem_load hM rfl _ _ (by rfl) _ (by rfl) _ _ _ (by repeat (first | exact List.Mem.head _ | apply List.Mem.tail)) (by first | exact row_a16 | exact row_i35 | exact row_val | exact row_a32 | exact row_e35 | exact row_v35 | exact row_sig | exact row_evi | exact row_half | exact row_dig | exact row_i2 | exact row_i3 | exact row_b3 | exact row_h2 | exact row_pair) ?_) | (refine wpList_mem_num hM rfl _ _ (by rfl) _ _ (by rfl) _ _ _ _ (by repeat (first | exact List.Mem.head _ | apply List.Mem.tail)) (by first | exact one_u8 | exact one_int | exact one_u32 | exact one_bool | exact one_errno | exact one_u16 | exact one_sl) (by omega) ?_)) | ((with_reducible refine at_load ?_); first | (refine wpList_mem_load hM rfl _ _ (by rfl) _ (by rfl) _ _ _ (by repeat (first | exact List.Mem.head _ | apply List.Mem.tail)) (by first | exact row_a16 | exact row_i35 | exact row_val | exact row_a32 | exact row_e35 | exact row_v35 | exact row_sig | exact row_evi | exact row_half | exact row_dig | exact row_i2 | exact row_i3 | exact row_b3 | exact row_h2 | exact row_pair) ?_) | (refine wpList_mem_num hM rfl _ _ (by rfl) _ _ (by rfl) _ _ _ _ (by repeat (first | exact List.Mem.head _ | apply List.Mem.tail)) (by first | exact one_u8 | exact one_int | exact one_u32 | exact one_bool | exact one_errno | exact one_u16 | exact one_sl) (by omega) ?_)) | ((with_reducible refine at_store ?_); first | (refine wpList_mem_store hM rfl _ _ _ (by rfl) _ (by rfl) _ (by rfl) _ _ _ _ (by repeat (first | exact UpdL.head _ _ _ _ _ | apply UpdL.tail)) (by first | exact row_a16 | exact row_i35 | exact row_val | exact row_a32 | exact row_e35 | exact row_v35 | exact row_sig | exact row_evi | exact row_half | exact row_dig | exact row_i2 | exact row_i3 | exact row_b3 | exact row_h2 | exact row_pair) (by first | assumption | (simp; done) | (simp only [cellsOf_size]; first | assumption | exact half_length _ | exact split_length _ | exact firstV_length _ _ _ | exact stepV_length _ _ _ _ | exact valuesV_length _ _ _) | (simp [*]; done)) (by first | exact vals_one _ _ | exact evc_one | (simp [Value.oneCell']; done)) rfl ?_; clear hM; intro wx hM) | (refine wpList_mem_setnum hM rfl _ _ _ (by rfl) _ _ (by rfl) _ _ (by rfl) _ _ _ _ (by repeat (first | exact UpdL.head _ _ _ _ _ | apply UpdL.tail)) (by first | exact one_u8 | exact one_int | exact one_u32 | exact one_bool | exact one_errno | exact one_u16 | exact one_sl) (by omega) _ (by first | rfl | exact (Int.toNat_of_nonneg (by omega)).symm) rfl ?_; clear hM; intro wx hM)) | ((with_reducible refine at_alloc ?_); refine wpList_mem_zero hM rfl _ (by rfl) _ _ (by first | exact zero_a16 | exact zero_i35 | exact zero_i35' | exact zero_val | exact zero_a32 | exact zero_a32' | exact zero_e35 | exact zero_v35 | exact zero_sig | exact zero_evi | exact zero_half | exact zero_dig | exact zero_int | exact zero_u8 | exact zero_i2 | exact zero_i3 | exact zero_b3 | exact zero_h2 | exact zero_pair) ?_; clear hM; intro gx wx hM) | ((with_reducible refine at_box ?_); refine wpList_mem_box hM rfl _ _ (by rfl) _ (by rfl) _ (by first | exact row_a16 | exact row_i35 | exact row_val | exact row_a32 | exact row_e35 | exact row_v35 | exact row_sig | exact row_evi | exact row_half | exact row_dig | exact row_i2 | exact row_i3 | exact row_b3 | exact row_h2 | exact row_pair) (by first | assumption | (simp; done) | (simp only [cellsOf_size]; first | assumption | exact half_length _ | exact split_length _ | exact firstV_length _ _ _ | exact stepV_length _ _ _ _ | exact valuesV_length _ _ _) | (simp [*]; done)) ?_; clear hM; intro gx wx hM))
  (refine (R2.out _ (HT.out.keep hM.below)).mono ?_)
  rintro e w1 ⟨rfl, hb1⟩
  replace hM := hM.step hb1
  clear hb1
  have eR := ER.out
  go_wp2_with (first | ((with_reducible refine at_load_g ?_ ?_); (· rfl); first | (refine wpList_mem_load hM rfl _ _ (by rfl) _ (by rfl) _ _ _ (by repeat (first | exact List.Mem.head _ | apply List.Mem.tail)) (by first | exact row_a16 | exact row_i35 | exact row_val | exact row_a32 | exact row_e35 | exact row_v35 | exact row_sig | exact row_evi | exact row_half | exact row_dig | exact row_i2 | exact row_i3 | exact row_b3 | exact row_h2 | exact row_pair) ?_) | (refine wpList_mem_num hM rfl _ _ (by rfl) _ _ (by rfl) _ _ _ _ (by repeat (first | exact List.Mem.head _ | apply List.Mem.tail)) (by first | exact one_u8 | exact one_int | exact one_u32 | exact one_bool | exact one_errno | exact one_u16 | exact one_sl) (by omega) ?_)) | ((with_reducible refine at_load ?_); first | (refine wpList_mem_load hM rfl _ _ (by rfl) _ (by rfl) _ _ _ (by repeat (first | exact List.Mem.head _ | apply List.Mem.tail)) (by first | exact row_a16 | exact row_i35 | exact row_val | exact row_a32 | exact row_e35 | exact row_v35 | exact row_sig | exact row_evi | exact row_half | exact row_dig | exact row_i2 | exact row_i3 | exact row_b3 | exact row_h2 | exact row_pair) ?_) | (refine wpList_mem_num hM rfl _ _ (by rfl) _ _ (by rfl) _ _ _ _ (by repeat (first | exact List.Mem.head _ | apply List.Mem.tail)) (by first | exact one_u8 | exact one_int | exact one_u32 | exact one_bool | exact one_errno | exact one_u16 | exact one_sl) (by omega) ?_)) | ((with_reducible refine at_store ?_); first | (refine wpList_mem_store hM rfl _ _ _ (by rfl) _ (by rfl) _ (by rfl) _ _ _ _ (by repeat (first | exact UpdL.head _ _ _ _ _ | apply UpdL.tail)) (by first | exact row_a16 | exact row_i35 | exact row_val | exact row_a32 | exact row_e35 | exact row_v35 | exact row_sig | exact row_evi | exact row_half | exact row_dig | exact row_i2 | exact row_i3 | exact row_b3 | exact row_h2 | exact row_pair) (by first | assumption | (simp; done) | (simp only [cellsOf_size]; first | assumption | exact half_length _ | exact split_length _ | exact firstV_length _ _ _ | exact stepV_length _ _ _ _ | exact valuesV_length _ _ _) | (simp [*]; done)) (by first | exact vals_one _ _ | exact evc_one | (simp [Value.oneCell']; done)) rfl ?_; clear hM; intro wx hM) | (refine wpList_mem_setnum hM rfl _ _ _ (by rfl) _ _ (by rfl) _ _ (by rfl) _ _ _ _ (by repeat (first | exact UpdL.head _ _ _ _ _ | apply UpdL.tail)) (by first | exact one_u8 | exact one_int | exact one_u32 | exact one_bool | exact one_errno | exact one_u16 | exact one_sl) (by omega) _ (by first | rfl | exact (Int.toNat_of_nonneg (by omega)).symm) rfl ?_; clear hM; intro wx hM)) | ((with_reducible refine at_alloc ?_); refine wpList_mem_zero hM rfl _ (by rfl) _ _ (by first | exact zero_a16 | exact zero_i35 | exact zero_i35' | exact zero_val | exact zero_a32 | exact zero_a32' | exact zero_e35 | exact zero_v35 | exact zero_sig | exact zero_evi | exact zero_half | exact zero_dig | exact zero_int | exact zero_u8 | exact zero_i2 | exact zero_i3 | exact zero_b3 | exact zero_h2 | exact zero_pair) ?_; clear hM; intro gx wx hM) | ((with_reducible refine at_box ?_); refine wpList_mem_box hM rfl _ _ (by rfl) _ (by rfl) _ (by first | exact row_a16 | exact row_i35 | exact row_val | exact row_a32 | exact row_e35 | exact row_v35 | exact row_sig | exact row_evi | exact row_half | exact row_dig | exact row_i2 | exact row_i3 | exact row_b3 | exact row_h2 | exact row_pair) (by first | assumption | (simp; done) | (simp only [cellsOf_size]; first | assumption | exact half_length _ | exact split_length _ | exact firstV_length _ _ _ | exact stepV_length _ _ _ _ | exact valuesV_length _ _ _) | (simp [*]; done)) ?_; clear hM; intro gx wx hM))
  refine wp_region_allHB hM (by kernel_rfl) ?_
  clear hM
  intro wd hM
  have HM0 := Lib.hid hM
  have hS := Below.refl wd.heap.size wd
  refine wpAllH_takes [0, 4, 1, 2, 5, 6] (by kernel_rfl) (fun _ _ _ _ _ h => h) hS (by kernel_rfl) ?_
  simp only [pickOps, List.filterMap_cons, List.filterMap_nil, List.getElem?_cons_zero, List.getElem?_cons_succ]
  repeat ((with_reducible apply wpHeld_step); (· rfl); (· (intro wq hSw; first | (go_simp; rfl) | (have hM' := HM0.out.step hSw; first | exact yields_load (C := fun _ => True) (nqc hM') rfl | exact yields_load (C := fun _ => True) (nql hM') rfl | exact yields_load (C := fun _ => True) (nqp hM') rfl | fail))); intro K hK; go_simp; (with_reducible refine hK _ ?_); clear hK K)
  refine wpHeld_nil ?_
  refine wpAllH_floats hS [⟨3, 56, 52, #[.tmp 53, .tmp 54, .tmp 55], #[.int .i64 y, .agg (cellsOf .u8 a), .agg (cellsOf .u8 E)], .agg (cellsOf .u8 S)⟩, ⟨7, 60, 52, #[.tmp 57, .tmp 58, .tmp 59], #[.int .i64 y, .agg (cellsOf .u8 b), .agg (cellsOf .u8 F)], .agg (cellsOf .u8 T)⟩] 8 9 10 11 16 17 56 60 ?_ rfl ⟨rfl, rfl, rfl⟩ rfl ⟨rfl, rfl, rfl⟩ rfl ⟨rfl, rfl, rfl⟩ rfl ⟨rfl, rfl, rfl⟩ (by kernel_rfl) (by kernel_rfl) (by kernel_rfl) (by kernel_rfl) (by simp) (by simp) (by simp) (by kernel_rfl) (by kernel_rfl) (.inl ⟨_, List.mem_cons_self, rfl, rfl, by kernel_rfl⟩) (.inl ⟨_, List.mem_cons_of_mem _ List.mem_cons_self, rfl, rfl, by kernel_rfl⟩) zero_e35 zero_e35 row_e35 row_e35 hSz hTz (vals_one _ _) (vals_one _ _) ?_
  · intro t ht
    simp only [List.mem_cons, List.not_mem_nil, or_false] at ht
    rcases ht with rfl | rfl
    · exact ⟨⟨_, _, rfl, rfl, rfl, rfl⟩, by kernel_rfl, (by simp only [List.map_toArray, List.map_cons, List.map_nil]; rfl), Tryd.call52, fun w' hb => EA.out _ (HT.out.keep (Below.step hM.below hb))⟩
    · exact ⟨⟨_, _, rfl, rfl, rfl, rfl⟩, by kernel_rfl, (by simp only [List.map_toArray, List.map_cons, List.map_nil]; rfl), Tryd.call52, fun w' hb => EB.out _ (HT.out.keep (Below.step hM.below hb))⟩
  intro g17 g16 wx hF
  replace hM := hM.frame hF
  simp only [List.cons_append, List.nil_append] at hM
  clear hS HM0 hF
  simp only [List.foldl_cons, List.foldl_nil]
  go_simp
  have eQ := EQ.out
  go_wp2_with (first | ((with_reducible refine at_build ?_); refine wpList_build_run rfl _ _ (by rfl) _ (by first | rfl | (simp; done) | (simp; and_intros <;> rfl)) _ (HB.out _) ?_) | ((with_reducible refine at_load_g ?_ ?_); (· rfl); first | (refine wpList_mem_load hM rfl _ _ (by rfl) _ (by rfl) _ _ _ (by repeat (first | exact List.Mem.head _ | apply List.Mem.tail)) (by first | exact row_a16 | exact row_i35 | exact row_val | exact row_a32 | exact row_e35 | exact row_v35 | exact row_sig | exact row_evi | exact row_half | exact row_dig | exact row_i2 | exact row_i3 | exact row_b3 | exact row_h2 | exact row_pair) ?_) | (refine wpList_mem_num hM rfl _ _ (by rfl) _ _ (by rfl) _ _ _ _ (by repeat (first | exact List.Mem.head _ | apply List.Mem.tail)) (by first | exact one_u8 | exact one_int | exact one_u32 | exact one_bool | exact one_errno | exact one_u16 | exact one_sl) (by omega) ?_)) | ((with_reducible refine at_load ?_); first | (refine wpList_mem_load hM rfl _ _ (by rfl) _ (by rfl) _ _ _ (by repeat (first | exact List.Mem.head _ | apply List.Mem.tail)) (by first | exact row_a16 | exact row_i35 | exact row_val | exact row_a32 | exact row_e35 | exact row_v35 | exact row_sig | exact row_evi | exact row_half | exact row_dig | exact row_i2 | exact row_i3 | exact row_b3 | exact row_h2 | exact row_pair) ?_) | (refine wpList_mem_num hM rfl _ _ (by rfl) _ _ (by rfl) _ _ _ _ (by repeat (first | exact List.Mem.head _ | apply List.Mem.tail)) (by first | exact one_u8 | exact one_int | exact one_u32 | exact one_bool | exact one_errno | exact one_u16 | exact one_sl) (by omega) ?_)) | ((with_reducible refine at_store ?_); first | (refine wpList_mem_store hM rfl _ _ _ (by rfl) _ (by rfl) _ (by rfl) _ _ _ _ (by repeat (first | exact UpdL.head _ _ _ _ _ | apply UpdL.tail)) (by first | exact row_a16 | exact row_i35 | exact row_val | exact row_a32 | exact row_e35 | exact row_v35 | exact row_sig | exact row_evi | exact row_half | exact row_dig | exact row_i2 | exact row_i3 | exact row_b3 | exact row_h2 | exact row_pair) (by first | assumption | (simp; done) | (simp only [cellsOf_size]; first | assumption | exact half_length _ | exact split_length _ | exact firstV_length _ _ _ | exact stepV_length _ _ _ _ | exact valuesV_length _ _ _) | (simp [*]; done)) (by first | exact vals_one _ _ | exact evc_one | (simp [Value.oneCell']; done)) rfl ?_; clear hM; intro wx hM) | (refine wpList_mem_setnum hM rfl _ _ _ (by rfl) _ _ (by rfl) _ _ (by rfl) _ _ _ _ (by repeat (first | exact UpdL.head _ _ _ _ _ | apply UpdL.tail)) (by first | exact one_u8 | exact one_int | exact one_u32 | exact one_bool | exact one_errno | exact one_u16 | exact one_sl) (by omega) _ (by first | rfl | exact (Int.toNat_of_nonneg (by omega)).symm) rfl ?_; clear hM; intro wx hM)) | ((with_reducible refine at_alloc ?_); refine wpList_mem_zero hM rfl _ (by rfl) _ _ (by first | exact zero_a16 | exact zero_i35 | exact zero_i35' | exact zero_val | exact zero_a32 | exact zero_a32' | exact zero_e35 | exact zero_v35 | exact zero_sig | exact zero_evi | exact zero_half | exact zero_dig | exact zero_int | exact zero_u8 | exact zero_i2 | exact zero_i3 | exact zero_b3 | exact zero_h2 | exact zero_pair) ?_; clear hM; intro gx wx hM) | ((with_reducible refine at_box ?_); refine wpList_mem_box hM rfl _ _ (by rfl) _ (by rfl) _ (by first | exact row_a16 | exact row_i35 | exact row_val | exact row_a32 | exact row_e35 | exact row_v35 | exact row_sig | exact row_evi | exact row_half | exact row_dig | exact row_i2 | exact row_i3 | exact row_b3 | exact row_h2 | exact row_pair) (by first | assumption | (simp; done) | (simp only [cellsOf_size]; first | assumption | exact half_length _ | exact split_length _ | exact firstV_length _ _ _ | exact stepV_length _ _ _ _ | exact valuesV_length _ _ _) | (simp [*]; done)) ?_; clear hM; intro gx wx hM))
  exact bodyPost_ret (results_mem_cell_tmp hM rfl (by rfl) (by repeat (first | exact List.Mem.head _ | apply List.Mem.tail)) (by first | exact row_a16 | exact row_i35 | exact row_val | exact row_a32 | exact row_e35 | exact row_v35 | exact row_sig | exact row_evi | exact row_half | exact row_dig | exact row_i2 | exact row_i3 | exact row_b3 | exact row_h2 | exact row_pair) (by rfl)) rfl ⟨rfl, hM.below⟩
end Go.Proofs.YtbbdnlcjjcmllaaDoor.Once
namespace Go.Proofs.YtbbdnlcjjcmllaaDoor.Once
open Go Go.RowKit Go.Bul Go.Bul.Hp
set_option maxRecDepth 20000 in
set_option maxHeartbeats 8000000 in
/-- Two different values with the same next value. -/
theorem extract_col (a E b F : List Nat) (leaf c : Nat) (y : Int) (w : World) (ha : a.length = 16) (hab : Bytes a) (hE : E.length = 560) (hEb : Bytes E) (hb : b.length = 16) (hbb : Bytes b) (hF : F.length = 560) (hFb : Bytes F) (hT : Tab w) (hl : leaf ≤ 65535) (hy : y = (leaf : Int))
    (hne : a ≠ b) (hls : lastV leaf a E = lastV leaf b F) (hlow : lower a b 35 = some c) (hAB : piece E c ≠ advV leaf c (nth (split b) c) (nth (split a) c - nth (split b) c) (piece F c)) :
    Calls Tryd.prog 28 #[.int .i64 y, .agg (cellsOf .u8 a), .agg (cellsOf .u8 E), .agg (cellsOf .u8 b), .agg (cellsOf .u8 F)] w fun e w' => ∃ (k : Nat) (X Y : List Nat), k < 15 ∧ Near leaf c k X Y ∧ stepV leaf c k X = stepV leaf c k Y ∧
      e = .returned (.tuple #[.agg (evc 2 (c : Nat) (k : Nat) ((k : Int) + 1) X Y (zeros 560) (zeros 560)), .int .i64 0]) ∧ Below w.heap.size w w' := by
  have hM := Mem.start [] w
  have HT := Lib.hid hT
  have r1 := fun w' => recover_yes a E leaf y w' ha hab hE hEb hl hy
  have r2 := fun w' => recover_yes b F leaf y w' hb hbb hF hFb hl hy
  have e1 := fun w' => endsOf_any a E leaf y w' ha hab hE hEb hl hy
  have e2 := fun w' => endsOf_any b F leaf y w' hb hbb hF hFb hl hy
  have hrl := recV_length leaf a E
  have hSl := lastV_length' leaf a E hE
  have hr : recV leaf a E = recV leaf b F := congrArg (comp leaf) hls
  have hll := fun w' => lower_any a b w' ha hab hb hbb
  rw [hlow, show lowRes (some c) = .tuple #[.int .i64 (c : Nat), .bool true] from rfl] at hll
  have hc15 := lower_some hlow
  rw [← hls] at e2
  rw [← hr] at r2
  have SA := Lib.hid (fun w' => split_any a w' ha hab)
  have SB := Lib.hid (fun w' => split_any b w' hb hbb)
  have hf15 : nth (split a) c ≤ 15 := split_le hab c
  have hgf : nth (split b) c < nth (split a) c := hc15.2
  have IA := Lib.hid (fun W => run_idx_num Tryd.underlying83 one_int (k := .i64) (split a) c hc15.1 (split_length a) W)
  have IB := Lib.hid (fun W => run_idx_num Tryd.underlying83 one_int (k := .i64) (split b) c hc15.1 (split_length b) W)
  have hpE := piece_length (n := 35) hE hc15.1
  have hpF := piece_length (n := 35) hF hc15.1
  have hvv := fun w' hT => advance_any (piece F c) leaf c (nth (split b) c) (nth (split a) c) y (c : Nat) (nth (split b) c : Nat) (nth (split a) c : Nat) w' hpF (bytes_piece hFb c) hl hc15.1 (Nat.le_of_lt hgf) hf15 hy rfl rfl rfl hT
  have hN := near_of_last hab hE hF hEb hFb hls c hc15.1 hc15.2 hAB
  obtain ⟨B, hB⟩ : ∃ B, B = advV leaf c (nth (split b) c) (nth (split a) c - nth (split b) c) (piece F c) := ⟨_, rfl⟩
  rw [← hB] at hvv hAB
  have hN : Near leaf c (nth (split a) c) (piece E c) B := by rw [hB]; exact hN
  generalize recV leaf a E = r at r1 r2 hrl
  generalize lastV leaf a E = S at e1 e2 hSl
  obtain ⟨T, hTS⟩ : ∃ T, T = S := ⟨_, rfl⟩
  rw [← hTS] at e2
  generalize nth (split a) c = f at hvv IA hf15 hgf hN ⊢
  generalize nth (split b) c = g at hvv IB hgf ⊢
  have hBl : B.length = 16 := hN.q
  have hSz : (cellsOf .u8 S).size = 560 := by rw [cellsOf_size]; exact hSl
  have hTz : (cellsOf .u8 T).size = 560 := by rw [hTS]; exact hSz
  have hAz : (cellsOf .u8 (piece E c)).size = 16 := by rw [cellsOf_size]; exact hpE
  have hBz : (cellsOf .u8 B).size = 16 := by rw [cellsOf_size]; exact hBl
  have R1 := Lib.hid r1
  have R2 := Lib.hid r2
  have EA := Lib.hid e1
  have EB := Lib.hid e2
  have HL := Lib.hid hll
  have HV := Lib.hid hvv
  have ED : Hid (∀ W, (Op.equalIn 10000 23 (.agg (cellsOf .u8 a)) (.agg (cellsOf .u8 b))).run Tryd.prog W = .ok false W) := Lib.hid fun W => by rw [eq_b16 a b ha hb]; simp [hne]
  have ER : Hid (∀ W, (Op.equalIn 10000 23 (.agg (cellsOf .u8 r)) (.agg (cellsOf .u8 r))).run Tryd.prog W = .ok true W) := Lib.hid fun W => self_b16 r hrl W
  have EQ : Hid (∀ W, (Op.equalIn 10000 34 (.agg (cellsOf .u8 S)) (.agg (cellsOf .u8 T))).run Tryd.prog W = .ok true W) := Lib.hid fun W => by rw [hTS, eq_e35 S S hSl hSl W 9997]; simp
  have EX : Hid (∀ W, (Op.equalIn 10000 23 (.agg (cellsOf .u8 (piece E c))) (.agg (cellsOf .u8 B))).run Tryd.prog W = .ok false W) := Lib.hid fun W => by rw [eq_b16 _ B hpE hBl]; simp [hN.ne]
  have hs0 := ev0_size
  have hc' : (c : Int) < 35 := by have := hc15.1; omega
  have hc35 := hc15.1
  have HA : Hid (∀ (k : Nat) (X : List Nat), k < 15 → X.length = 16 → Bytes X → ∀ w', Tab w' → Calls Tryd.prog 54 #[.int .i64 y, .int .i64 (c : Nat), .int .i64 (k : Nat), .int .i64 ((k : Int) + 1), .agg (cellsOf .u8 X)] w' fun e w'' => e = .returned (.agg (cellsOf .u8 (stepV leaf c k X))) ∧ Below w'.heap.size w' w'') := Lib.hid fun k X hk hX hXb w' hT => by
    have := advance_any X leaf c k (k + 1) y (c : Nat) (k : Nat) ((k : Int) + 1) w' hX hXb hl hc35 (by omega) (by omega) hy rfl rfl (by omega) hT
    rwa [adv_one] at this
  have HN := Lib.hid hN
  have HF15 := Lib.hid hf15
  clear hT hl hy r1 r2 e1 e2 hvv hll hab hEb hbb hFb hne hr hls hlow hAB hc15 hgf hf15 hTS hB hN
  go_enter Tryd.func28, Tryd.ntmps28
  go_wp2_with (first | ((with_reducible refine at_load_g ?_ ?_); (· rfl); first | (refine wpList_mem_load hM rfl _ _ (by rfl) _ (by rfl) _ _ _ (by repeat (first | exact List.Mem.head _ | apply List.Mem.tail)) (by first | exact row_a16 | exact row_i35 | exact row_val | exact row_a32 | exact row_e35 | exact row_v35 | exact row_sig | exact row_evi | exact row_half | exact row_dig | exact row_i2 | exact row_i3 | exact row_b3 | exact row_h2 | exact row_pair) ?_) | (refine wpList_mem_num hM rfl _ _ (by rfl) _ _ (by rfl) _ _ _ _ (by repeat (first | exact List.Mem.head _ | apply List.Mem.tail)) (by first | exact one_u8 | exact one_int | exact one_u32 | exact one_bool | exact one_errno | exact one_u16 | exact one_sl) (by omega) ?_)) | ((with_reducible refine at_load ?_); first | (refine wpList_mem_load hM rfl _ _ (by rfl) _ (by rfl) _ _ _ (by repeat (first | exact List.Mem.head _ | apply List.Mem.tail)) (by first | exact row_a16 | exact row_i35 | exact row_val | exact row_a32 | exact row_e35 | exact row_v35 | exact row_sig | exact row_evi | exact row_half | exact row_dig | exact row_i2 | exact row_i3 | exact row_b3 | exact row_h2 | exact row_pair) ?_) | (refine wpList_mem_num hM rfl _ _ (by rfl) _ _ (by rfl) _ _ _ _ (by repeat (first | exact List.Mem.head _ | apply List.Mem.tail)) (by first | exact one_u8 | exact one_int | exact one_u32 | exact one_bool | exact one_errno | exact one_u16 | exact one_sl) (by omega) ?_)) | ((with_reducible refine at_store ?_); first | (refine wpList_mem_store hM rfl _ _ _ (by rfl) _ (by rfl) _ (by rfl) _ _ _ _ (by repeat (first | exact UpdL.head _ _ _ _ _ | apply UpdL.tail)) (by first | exact row_a16 | exact row_i35 | exact row_val | exact row_a32 | exact row_e35 | exact row_v35 | exact row_sig | exact row_evi | exact row_half | exact row_dig | exact row_i2 | exact row_i3 | exact row_b3 | exact row_h2 | exact row_pair) (by first | assumption | (simp; done) | (simp only [cellsOf_size]; first | assumption | exact half_length _ | exact split_length _ | exact firstV_length _ _ _ | exact stepV_length _ _ _ _ | exact valuesV_length _ _ _) | (simp [*]; done)) (by first | exact vals_one _ _ | exact evc_one | (simp [Value.oneCell']; done)) rfl ?_; clear hM; intro wx hM) | (refine wpList_mem_setnum hM rfl _ _ _ (by rfl) _ _ (by rfl) _ _ (by rfl) _ _ _ _ (by repeat (first | exact UpdL.head _ _ _ _ _ | apply UpdL.tail)) (by first | exact one_u8 | exact one_int | exact one_u32 | exact one_bool | exact one_errno | exact one_u16 | exact one_sl) (by omega) _ (by first | rfl | exact (Int.toNat_of_nonneg (by omega)).symm) rfl ?_; clear hM; intro wx hM)) | ((with_reducible refine at_alloc ?_); refine wpList_mem_zero hM rfl _ (by rfl) _ _ (by first | exact zero_a16 | exact zero_i35 | exact zero_i35' | exact zero_val | exact zero_a32 | exact zero_a32' | exact zero_e35 | exact zero_v35 | exact zero_sig | exact zero_evi | exact zero_half | exact zero_dig | exact zero_int | exact zero_u8 | exact zero_i2 | exact zero_i3 | exact zero_b3 | exact zero_h2 | exact zero_pair) ?_; clear hM; intro gx wx hM) | ((with_reducible refine at_box ?_); refine wpList_mem_box hM rfl _ _ (by rfl) _ (by rfl) _ (by first | exact row_a16 | exact row_i35 | exact row_val | exact row_a32 | exact row_e35 | exact row_v35 | exact row_sig | exact row_evi | exact row_half | exact row_dig | exact row_i2 | exact row_i3 | exact row_b3 | exact row_h2 | exact row_pair) (by first | assumption | (simp; done) | (simp only [cellsOf_size]; first | assumption | exact half_length _ | exact split_length _ | exact firstV_length _ _ _ | exact stepV_length _ _ _ _ | exact valuesV_length _ _ _) | (simp [*]; done)) ?_; clear hM; intro gx wx hM))
  (refine (R1.out _ (HT.out.keep hM.below)).mono ?_)
  rintro e w1 ⟨rfl, hb1⟩
  replace hM := hM.step hb1
  clear hb1
  have eD := ED.out
  go_wp2_with (first | ((with_reducible refine at_load_g ?_ ?_); (· rfl); first | (refine wpList_mem_load hM rfl _ _ (by rfl) _ (by rfl) _ _ _ (by repeat (first | exact List.Mem.head _ | apply List.Mem.tail)) (by first | exact row_a16 | exact row_i35 | exact row_val | exact row_a32 | exact row_e35 | exact row_v35 | exact row_sig | exact row_evi | exact row_half | exact row_dig | exact row_i2 | exact row_i3 | exact row_b3 | exact row_h2 | exact row_pair) ?_) | (refine wpList_mem_num hM rfl _ _ (by rfl) _ _ (by rfl) _ _ _ _ (by repeat (first | exact List.Mem.head _ | apply List.Mem.tail)) (by first | exact one_u8 | exact one_int | exact one_u32 | exact one_bool | exact one_errno | exact one_u16 | exact one_sl) (by omega) ?_)) | ((with_reducible refine at_load ?_); first | (refine wpList_mem_load hM rfl _ _ (by rfl) _ (by rfl) _ _ _ (by repeat (first | exact List.Mem.head _ | apply List.Mem.tail)) (by first | exact row_a16 | exact row_i35 | exact row_val | exact row_a32 | exact row_e35 | exact row_v35 | exact row_sig | exact row_evi | exact row_half | exact row_dig | exact row_i2 | exact row_i3 | exact row_b3 | exact row_h2 | exact row_pair) ?_) | (refine wpList_mem_num hM rfl _ _ (by rfl) _ _ (by rfl) _ _ _ _ (by repeat (first | exact List.Mem.head _ | apply List.Mem.tail)) (by first | exact one_u8 | exact one_int | exact one_u32 | exact one_bool | exact one_errno | exact one_u16 | exact one_sl) (by omega) ?_)) | ((with_reducible refine at_store ?_); first | (refine wpList_mem_store hM rfl _ _ _ (by rfl) _ (by rfl) _ (by rfl) _ _ _ _ (by repeat (first | exact UpdL.head _ _ _ _ _ | apply UpdL.tail)) (by first | exact row_a16 | exact row_i35 | exact row_val | exact row_a32 | exact row_e35 | exact row_v35 | exact row_sig | exact row_evi | exact row_half | exact row_dig | exact row_i2 | exact row_i3 | exact row_b3 | exact row_h2 | exact row_pair) (by first | assumption | (simp; done) | (simp only [cellsOf_size]; first | assumption | exact half_length _ | exact split_length _ | exact firstV_length _ _ _ | exact stepV_length _ _ _ _ | exact valuesV_length _ _ _) | (simp [*]; done)) (by first | exact vals_one _ _ | exact evc_one | (simp [Value.oneCell']; done)) rfl ?_; clear hM; intro wx hM) | (refine wpList_mem_setnum hM rfl _ _ _ (by rfl) _ _ (by rfl) _ _ (by rfl) _ _ _ _ (by repeat (first | exact UpdL.head _ _ _ _ _ | apply UpdL.tail)) (by first | exact one_u8 | exact one_int | exact one_u32 | exact one_bool | exact one_errno | exact one_u16 | exact one_sl) (by omega) _ (by first | rfl | exact (Int.toNat_of_nonneg (by omega)).symm) rfl ?_; clear hM; intro wx hM)) | ((with_reducible refine at_alloc ?_); refine wpList_mem_zero hM rfl _ (by rfl) _ _ (by first | exact zero_a16 | exact zero_i35 | exact zero_i35' | exact zero_val | exact zero_a32 | exact zero_a32' | exact zero_e35 | exact zero_v35 | exact zero_sig | exact zero_evi | exact zero_half | exact zero_dig | exact zero_int | exact zero_u8 | exact zero_i2 | exact zero_i3 | exact zero_b3 | exact zero_h2 | exact zero_pair) ?_; clear hM; intro gx wx hM) | ((with_reducible refine at_box ?_); refine wpList_mem_box hM rfl _ _ (by rfl) _ (by rfl) _ (by first | exact row_a16 | exact row_i35 | exact row_val | exact row_a32 | exact row_e35 | exact row_v35 | exact row_sig | exact row_evi | exact row_half | exact row_dig | exact row_i2 | exact row_i3 | exact row_b3 | exact row_h2 | exact row_pair) (by first | assumption | (simp; done) | (simp only [cellsOf_size]; first | assumption | exact half_length _ | exact split_length _ | exact firstV_length _ _ _ | exact stepV_length _ _ _ _ | exact valuesV_length _ _ _) | (simp [*]; done)) ?_; clear hM; intro gx wx hM))
  (refine (R2.out _ (HT.out.keep hM.below)).mono ?_)
  rintro e w1 ⟨rfl, hb1⟩
  replace hM := hM.step hb1
  clear hb1
  have eR := ER.out
  go_wp2_with (first | ((with_reducible refine at_load_g ?_ ?_); (· rfl); first | (refine wpList_mem_load hM rfl _ _ (by rfl) _ (by rfl) _ _ _ (by repeat (first | exact List.Mem.head _ | apply List.Mem.tail)) (by first | exact row_a16 | exact row_i35 | exact row_val | exact row_a32 | exact row_e35 | exact row_v35 | exact row_sig | exact row_evi | exact row_half | exact row_dig | exact row_i2 | exact row_i3 | exact row_b3 | exact row_h2 | exact row_pair) ?_) | (refine wpList_mem_num hM rfl _ _ (by rfl) _ _ (by rfl) _ _ _ _ (by repeat (first | exact List.Mem.head _ | apply List.Mem.tail)) (by first | exact one_u8 | exact one_int | exact one_u32 | exact one_bool | exact one_errno | exact one_u16 | exact one_sl) (by omega) ?_)) | ((with_reducible refine at_load ?_); first | (refine wpList_mem_load hM rfl _ _ (by rfl) _ (by rfl) _ _ _ (by repeat (first | exact List.Mem.head _ | apply List.Mem.tail)) (by first | exact row_a16 | exact row_i35 | exact row_val | exact row_a32 | exact row_e35 | exact row_v35 | exact row_sig | exact row_evi | exact row_half | exact row_dig | exact row_i2 | exact row_i3 | exact row_b3 | exact row_h2 | exact row_pair) ?_) | (refine wpList_mem_num hM rfl _ _ (by rfl) _ _ (by rfl) _ _ _ _ (by repeat (first | exact List.Mem.head _ | apply List.Mem.tail)) (by first | exact one_u8 | exact one_int | exact one_u32 | exact one_bool | exact one_errno | exact one_u16 | exact one_sl) (by omega) ?_)) | ((with_reducible refine at_store ?_); first | (refine wpList_mem_store hM rfl _ _ _ (by rfl) _ (by rfl) _ (by rfl) _ _ _ _ (by repeat (first | exact UpdL.head _ _ _ _ _ | apply UpdL.tail)) (by first | exact row_a16 | exact row_i35 | exact row_val | exact row_a32 | exact row_e35 | exact row_v35 | exact row_sig | exact row_evi | exact row_half | exact row_dig | exact row_i2 | exact row_i3 | exact row_b3 | exact row_h2 | exact row_pair) (by first | assumption | (simp; done) | (simp only [cellsOf_size]; first | assumption | exact half_length _ | exact split_length _ | exact firstV_length _ _ _ | exact stepV_length _ _ _ _ | exact valuesV_length _ _ _) | (simp [*]; done)) (by first | exact vals_one _ _ | exact evc_one | (simp [Value.oneCell']; done)) rfl ?_; clear hM; intro wx hM) | (refine wpList_mem_setnum hM rfl _ _ _ (by rfl) _ _ (by rfl) _ _ (by rfl) _ _ _ _ (by repeat (first | exact UpdL.head _ _ _ _ _ | apply UpdL.tail)) (by first | exact one_u8 | exact one_int | exact one_u32 | exact one_bool | exact one_errno | exact one_u16 | exact one_sl) (by omega) _ (by first | rfl | exact (Int.toNat_of_nonneg (by omega)).symm) rfl ?_; clear hM; intro wx hM)) | ((with_reducible refine at_alloc ?_); refine wpList_mem_zero hM rfl _ (by rfl) _ _ (by first | exact zero_a16 | exact zero_i35 | exact zero_i35' | exact zero_val | exact zero_a32 | exact zero_a32' | exact zero_e35 | exact zero_v35 | exact zero_sig | exact zero_evi | exact zero_half | exact zero_dig | exact zero_int | exact zero_u8 | exact zero_i2 | exact zero_i3 | exact zero_b3 | exact zero_h2 | exact zero_pair) ?_; clear hM; intro gx wx hM) | ((with_reducible refine at_box ?_); refine wpList_mem_box hM rfl _ _ (by rfl) _ (by rfl) _ (by first | exact row_a16 | exact row_i35 | exact row_val | exact row_a32 | exact row_e35 | exact row_v35 | exact row_sig | exact row_evi | exact row_half | exact row_dig | exact row_i2 | exact row_i3 | exact row_b3 | exact row_h2 | exact row_pair) (by first | assumption | (simp; done) | (simp only [cellsOf_size]; first | assumption | exact half_length _ | exact split_length _ | exact firstV_length _ _ _ | exact stepV_length _ _ _ _ | exact valuesV_length _ _ _) | (simp [*]; done)) ?_; clear hM; intro gx wx hM))
  refine wp_region_allHB hM (by kernel_rfl) ?_
  clear hM
  intro wd hM
  have HM0 := Lib.hid hM
  have hS := Below.refl wd.heap.size wd
  refine wpAllH_takes [0, 4, 1, 2, 5, 6] (by kernel_rfl) (fun _ _ _ _ _ h => h) hS (by kernel_rfl) ?_
  simp only [pickOps, List.filterMap_cons, List.filterMap_nil, List.getElem?_cons_zero, List.getElem?_cons_succ]
  repeat ((with_reducible apply wpHeld_step); (· rfl); (· (intro wq hSw; first | (go_simp; rfl) | (have hM' := HM0.out.step hSw; first | exact yields_load (C := fun _ => True) (nqc hM') rfl | exact yields_load (C := fun _ => True) (nql hM') rfl | exact yields_load (C := fun _ => True) (nqp hM') rfl | fail))); intro K hK; go_simp; (with_reducible refine hK _ ?_); clear hK K)
  refine wpHeld_nil ?_
  refine wpAllH_floats hS [⟨3, 56, 52, #[.tmp 53, .tmp 54, .tmp 55], #[.int .i64 y, .agg (cellsOf .u8 a), .agg (cellsOf .u8 E)], .agg (cellsOf .u8 S)⟩, ⟨7, 60, 52, #[.tmp 57, .tmp 58, .tmp 59], #[.int .i64 y, .agg (cellsOf .u8 b), .agg (cellsOf .u8 F)], .agg (cellsOf .u8 T)⟩] 8 9 10 11 16 17 56 60 ?_ rfl ⟨rfl, rfl, rfl⟩ rfl ⟨rfl, rfl, rfl⟩ rfl ⟨rfl, rfl, rfl⟩ rfl ⟨rfl, rfl, rfl⟩ (by kernel_rfl) (by kernel_rfl) (by kernel_rfl) (by kernel_rfl) (by simp) (by simp) (by simp) (by kernel_rfl) (by kernel_rfl) (.inl ⟨_, List.mem_cons_self, rfl, rfl, by kernel_rfl⟩) (.inl ⟨_, List.mem_cons_of_mem _ List.mem_cons_self, rfl, rfl, by kernel_rfl⟩) zero_e35 zero_e35 row_e35 row_e35 hSz hTz (vals_one _ _) (vals_one _ _) ?_
  · intro t ht
    simp only [List.mem_cons, List.not_mem_nil, or_false] at ht
    rcases ht with rfl | rfl
    · exact ⟨⟨_, _, rfl, rfl, rfl, rfl⟩, by kernel_rfl, (by simp only [List.map_toArray, List.map_cons, List.map_nil]; rfl), Tryd.call52, fun w' hb => EA.out _ (HT.out.keep (Below.step hM.below hb))⟩
    · exact ⟨⟨_, _, rfl, rfl, rfl, rfl⟩, by kernel_rfl, (by simp only [List.map_toArray, List.map_cons, List.map_nil]; rfl), Tryd.call52, fun w' hb => EB.out _ (HT.out.keep (Below.step hM.below hb))⟩
  intro g17 g16 wx hF
  replace hM := hM.frame hF
  simp only [List.cons_append, List.nil_append] at hM
  clear hS HM0 hF
  simp only [List.foldl_cons, List.foldl_nil]
  go_simp
  have eQ := EQ.out
  go_wp2_with (first | ((with_reducible refine at_load_g ?_ ?_); (· rfl); first | (refine wpList_mem_load hM rfl _ _ (by rfl) _ (by rfl) _ _ _ (by repeat (first | exact List.Mem.head _ | apply List.Mem.tail)) (by first | exact row_a16 | exact row_i35 | exact row_val | exact row_a32 | exact row_e35 | exact row_v35 | exact row_sig | exact row_evi | exact row_half | exact row_dig | exact row_i2 | exact row_i3 | exact row_b3 | exact row_h2 | exact row_pair) ?_) | (refine wpList_mem_num hM rfl _ _ (by rfl) _ _ (by rfl) _ _ _ _ (by repeat (first | exact List.Mem.head _ | apply List.Mem.tail)) (by first | exact one_u8 | exact one_int | exact one_u32 | exact one_bool | exact one_errno | exact one_u16 | exact one_sl) (by omega) ?_)) | ((with_reducible refine at_load ?_); first | (refine wpList_mem_load hM rfl _ _ (by rfl) _ (by rfl) _ _ _ (by repeat (first | exact List.Mem.head _ | apply List.Mem.tail)) (by first | exact row_a16 | exact row_i35 | exact row_val | exact row_a32 | exact row_e35 | exact row_v35 | exact row_sig | exact row_evi | exact row_half | exact row_dig | exact row_i2 | exact row_i3 | exact row_b3 | exact row_h2 | exact row_pair) ?_) | (refine wpList_mem_num hM rfl _ _ (by rfl) _ _ (by rfl) _ _ _ _ (by repeat (first | exact List.Mem.head _ | apply List.Mem.tail)) (by first | exact one_u8 | exact one_int | exact one_u32 | exact one_bool | exact one_errno | exact one_u16 | exact one_sl) (by omega) ?_)) | ((with_reducible refine at_store ?_); first | (refine wpList_mem_store hM rfl _ _ _ (by rfl) _ (by rfl) _ (by rfl) _ _ _ _ (by repeat (first | exact UpdL.head _ _ _ _ _ | apply UpdL.tail)) (by first | exact row_a16 | exact row_i35 | exact row_val | exact row_a32 | exact row_e35 | exact row_v35 | exact row_sig | exact row_evi | exact row_half | exact row_dig | exact row_i2 | exact row_i3 | exact row_b3 | exact row_h2 | exact row_pair) (by first | assumption | (simp; done) | (simp only [cellsOf_size]; first | assumption | exact half_length _ | exact split_length _ | exact firstV_length _ _ _ | exact stepV_length _ _ _ _ | exact valuesV_length _ _ _) | (simp [*]; done)) (by first | exact vals_one _ _ | exact evc_one | (simp [Value.oneCell']; done)) rfl ?_; clear hM; intro wx hM) | (refine wpList_mem_setnum hM rfl _ _ _ (by rfl) _ _ (by rfl) _ _ (by rfl) _ _ _ _ (by repeat (first | exact UpdL.head _ _ _ _ _ | apply UpdL.tail)) (by first | exact one_u8 | exact one_int | exact one_u32 | exact one_bool | exact one_errno | exact one_u16 | exact one_sl) (by omega) _ (by first | rfl | exact (Int.toNat_of_nonneg (by omega)).symm) rfl ?_; clear hM; intro wx hM)) | ((with_reducible refine at_alloc ?_); refine wpList_mem_zero hM rfl _ (by rfl) _ _ (by first | exact zero_a16 | exact zero_i35 | exact zero_i35' | exact zero_val | exact zero_a32 | exact zero_a32' | exact zero_e35 | exact zero_v35 | exact zero_sig | exact zero_evi | exact zero_half | exact zero_dig | exact zero_int | exact zero_u8 | exact zero_i2 | exact zero_i3 | exact zero_b3 | exact zero_h2 | exact zero_pair) ?_; clear hM; intro gx wx hM) | ((with_reducible refine at_box ?_); refine wpList_mem_box hM rfl _ _ (by rfl) _ (by rfl) _ (by first | exact row_a16 | exact row_i35 | exact row_val | exact row_a32 | exact row_e35 | exact row_v35 | exact row_sig | exact row_evi | exact row_half | exact row_dig | exact row_i2 | exact row_i3 | exact row_b3 | exact row_h2 | exact row_pair) (by first | assumption | (simp; done) | (simp only [cellsOf_size]; first | assumption | exact half_length _ | exact split_length _ | exact firstV_length _ _ _ | exact stepV_length _ _ _ _ | exact valuesV_length _ _ _) | (simp [*]; done)) ?_; clear hM; intro gx wx hM))
  (refine (HL.out _).mono ?_)
  rintro e w1 ⟨rfl, hb1⟩
  replace hM := hM.step hb1
  clear hb1 eQ eD eR
  go_wp2_with (first | ((with_reducible refine at_load_g ?_ ?_); (· rfl); first | (refine wpList_mem_load hM rfl _ _ (by rfl) _ (by rfl) _ _ _ (by repeat (first | exact List.Mem.head _ | apply List.Mem.tail)) (by first | exact row_a16 | exact row_i35 | exact row_val | exact row_a32 | exact row_e35 | exact row_v35 | exact row_sig | exact row_evi | exact row_half | exact row_dig | exact row_i2 | exact row_i3 | exact row_b3 | exact row_h2 | exact row_pair) ?_) | (refine wpList_mem_num hM rfl _ _ (by rfl) _ _ (by rfl) _ _ _ _ (by repeat (first | exact List.Mem.head _ | apply List.Mem.tail)) (by first | exact one_u8 | exact one_int | exact one_u32 | exact one_bool | exact one_errno | exact one_u16 | exact one_sl) (by omega) ?_)) | ((with_reducible refine at_load ?_); first | (refine wpList_mem_load hM rfl _ _ (by rfl) _ (by rfl) _ _ _ (by repeat (first | exact List.Mem.head _ | apply List.Mem.tail)) (by first | exact row_a16 | exact row_i35 | exact row_val | exact row_a32 | exact row_e35 | exact row_v35 | exact row_sig | exact row_evi | exact row_half | exact row_dig | exact row_i2 | exact row_i3 | exact row_b3 | exact row_h2 | exact row_pair) ?_) | (refine wpList_mem_num hM rfl _ _ (by rfl) _ _ (by rfl) _ _ _ _ (by repeat (first | exact List.Mem.head _ | apply List.Mem.tail)) (by first | exact one_u8 | exact one_int | exact one_u32 | exact one_bool | exact one_errno | exact one_u16 | exact one_sl) (by omega) ?_)) | ((with_reducible refine at_store ?_); first | (refine wpList_mem_store hM rfl _ _ _ (by rfl) _ (by rfl) _ (by rfl) _ _ _ _ (by repeat (first | exact UpdL.head _ _ _ _ _ | apply UpdL.tail)) (by first | exact row_a16 | exact row_i35 | exact row_val | exact row_a32 | exact row_e35 | exact row_v35 | exact row_sig | exact row_evi | exact row_half | exact row_dig | exact row_i2 | exact row_i3 | exact row_b3 | exact row_h2 | exact row_pair) (by first | assumption | (simp; done) | (simp only [cellsOf_size]; first | assumption | exact half_length _ | exact split_length _ | exact firstV_length _ _ _ | exact stepV_length _ _ _ _ | exact valuesV_length _ _ _) | (simp [*]; done)) (by first | exact vals_one _ _ | exact evc_one | (simp [Value.oneCell']; done)) rfl ?_; clear hM; intro wx hM) | (refine wpList_mem_setnum hM rfl _ _ _ (by rfl) _ _ (by rfl) _ _ (by rfl) _ _ _ _ (by repeat (first | exact UpdL.head _ _ _ _ _ | apply UpdL.tail)) (by first | exact one_u8 | exact one_int | exact one_u32 | exact one_bool | exact one_errno | exact one_u16 | exact one_sl) (by omega) _ (by first | rfl | exact (Int.toNat_of_nonneg (by omega)).symm) rfl ?_; clear hM; intro wx hM)) | ((with_reducible refine at_alloc ?_); refine wpList_mem_zero hM rfl _ (by rfl) _ _ (by first | exact zero_a16 | exact zero_i35 | exact zero_i35' | exact zero_val | exact zero_a32 | exact zero_a32' | exact zero_e35 | exact zero_v35 | exact zero_sig | exact zero_evi | exact zero_half | exact zero_dig | exact zero_int | exact zero_u8 | exact zero_i2 | exact zero_i3 | exact zero_b3 | exact zero_h2 | exact zero_pair) ?_; clear hM; intro gx wx hM) | ((with_reducible refine at_box ?_); refine wpList_mem_box hM rfl _ _ (by rfl) _ (by rfl) _ (by first | exact row_a16 | exact row_i35 | exact row_val | exact row_a32 | exact row_e35 | exact row_v35 | exact row_sig | exact row_evi | exact row_half | exact row_dig | exact row_i2 | exact row_i3 | exact row_b3 | exact row_h2 | exact row_pair) (by first | assumption | (simp; done) | (simp only [cellsOf_size]; first | assumption | exact half_length _ | exact split_length _ | exact firstV_length _ _ _ | exact stepV_length _ _ _ _ | exact valuesV_length _ _ _) | (simp [*]; done)) ?_; clear hM; intro gx wx hM))
  refine Go.Bul.wp_region_class (Mem _ w _ _) (by kernel_rfl) (by kernel_rfl) hM.drew ?_
  repeat ((with_reducible refine wpQuiet_step (fun K hK => ?_)); (first | ((with_reducible refine quiet_some ?_ ?_); (· rfl)) | ((with_reducible refine quiet_wanted ?_ ?_); (· rfl))); apply Exists.intro; refine ⟨fun w' hM' => ?_, ?_⟩; (· first | exact quietAt_exec (yields_index _ _ _ (by rfl) _ _ (by rfl) (by rfl) _ (IA.out _)) | exact quietAt_exec (yields_index _ _ _ (by rfl) _ _ (by rfl) (by rfl) _ (IB.out _)) | exact quietAt_mem_load hM' _ _ (by rfl) _ (by rfl) _ _ _ (by repeat (first | exact List.Mem.head _ | apply List.Mem.tail)) (by first | exact row_a16 | exact row_i35 | exact row_val | exact row_a32 | exact row_e35 | exact row_v35 | exact row_sig | exact row_evi | exact row_half | exact row_dig | exact row_i2 | exact row_i3 | exact row_b3 | exact row_h2 | exact row_pair) | exact quietAt_mem_num hM' _ _ (by rfl) _ _ (by rfl) _ _ _ _ (by repeat (first | exact List.Mem.head _ | apply List.Mem.tail)) (by first | exact one_u8 | exact one_int | exact one_u32 | exact one_bool | exact one_errno | exact one_u16 | exact one_sl) (by omega) | exact quietAt_mem_cell hM' _ _ (by rfl) _ _ (by rfl) _ _ _ (by repeat (first | exact List.Mem.head _ | apply List.Mem.tail)) (by first | exact one_u8 | exact one_int | exact one_u32 | exact one_bool | exact one_errno | exact one_u16 | exact one_sl) _ (by rfl) | exact quietAt_mem_piece hM' _ _ (by rfl) _ _ (by rfl) _ _ _ _ (by repeat (first | exact List.Mem.head _ | apply List.Mem.tail)) (by first | exact row_a16 | exact row_i35 | exact row_val | exact row_a32 | exact row_e35 | exact row_v35 | exact row_sig | exact row_evi | exact row_half | exact row_dig | exact row_i2 | exact row_i3 | exact row_b3 | exact row_h2 | exact row_pair) (by omega) | (go_simp; rfl) | (go_simp; with_reducible refine at_calls ?_; first | exact quiet_mem_call hM' (SA.out _) | exact quiet_mem_call hM' (SB.out _))); go_simp; refine hK _ ?_; clear hK K)
  refine wpQuiet_nil ?_
  intro wx hM
  go_wp2_with fail
  refine wp_region_allHB hM (by kernel_rfl) ?_
  clear hM
  intro wd hM
  have HM0 := Lib.hid hM
  have hS := Below.refl wd.heap.size wd
  refine wpAllH_takes [0, 1, 3, 4, 5, 6, 7, 8, 2, 9] (by kernel_rfl) (fun _ _ _ _ _ h => h) hS (by kernel_rfl) ?_
  simp only [pickOps, List.filterMap_cons, List.filterMap_nil, List.getElem?_cons_zero, List.getElem?_cons_succ]
  repeat ((with_reducible apply wpHeld_step); (· rfl); (· (intro wq hSw; first | (go_simp; rfl) | (have hM' := HM0.out.step hSw; first | exact yields_load (C := fun _ => True) (nqc hM') rfl | exact yields_load (C := fun _ => True) (nql hM') rfl | exact yields_load (C := fun _ => True) (nqp hM') rfl | fail))); intro K hK; go_simp; (with_reducible refine hK _ ?_); clear hK K)
  refine wpHeld_nil ?_
  refine wpAllH_floats hS [⟨10, 91, 54, #[.tmp 84, .tmp 85, .tmp 86, .tmp 87, .tmp 90], #[.int .i64 y, .int .i64 (c : Nat), .int .i64 (g : Nat), .int .i64 (f : Nat), .agg (cellsOf .u8 (piece F c))], .agg (cellsOf .u8 B)⟩] 11 12 13 14 22 23 83 91 ?_ rfl ⟨rfl, rfl, rfl⟩ rfl ⟨rfl, rfl, rfl⟩ rfl ⟨rfl, rfl, rfl⟩ rfl ⟨rfl, rfl, rfl⟩ (by kernel_rfl) (by kernel_rfl) (by kernel_rfl) (by kernel_rfl) (by simp) (by simp) (by simp) (by kernel_rfl) (by kernel_rfl) (.inr ⟨by simp, rfl⟩) (.inl ⟨_, List.mem_cons_self, rfl, rfl, by kernel_rfl⟩) zero_a16 zero_a16 row_a16 row_a16 hAz hBz (vals_one _ _) (vals_one _ _) ?_
  · intro t ht
    simp only [List.mem_cons, List.not_mem_nil, or_false] at ht
    rcases ht with rfl
    exact ⟨⟨_, _, rfl, rfl, rfl, rfl⟩, by kernel_rfl, (by simp only [List.map_toArray, List.map_cons, List.map_nil]; rfl), Tryd.call54, fun w' hb => HV.out _ (HT.out.keep (Below.step hM.below hb))⟩
  intro g22 g23 wx hF
  replace hM := hM.frame hF
  simp only [List.cons_append, List.nil_append] at hM
  clear hS HM0 hF
  simp only [List.foldl_cons, List.foldl_nil]
  go_simp
  have eX := EX.out
  go_wp2_with (first | ((with_reducible refine at_load_g ?_ ?_); (· rfl); first | (refine wpList_mem_load hM rfl _ _ (by rfl) _ (by rfl) _ _ _ (by repeat (first | exact List.Mem.head _ | apply List.Mem.tail)) (by first | exact row_a16 | exact row_i35 | exact row_val | exact row_a32 | exact row_e35 | exact row_v35 | exact row_sig | exact row_evi | exact row_half | exact row_dig | exact row_i2 | exact row_i3 | exact row_b3 | exact row_h2 | exact row_pair) ?_) | (refine wpList_mem_num hM rfl _ _ (by rfl) _ _ (by rfl) _ _ _ _ (by repeat (first | exact List.Mem.head _ | apply List.Mem.tail)) (by first | exact one_u8 | exact one_int | exact one_u32 | exact one_bool | exact one_errno | exact one_u16 | exact one_sl) (by omega) ?_)) | ((with_reducible refine at_load ?_); first | (refine wpList_mem_load hM rfl _ _ (by rfl) _ (by rfl) _ _ _ (by repeat (first | exact List.Mem.head _ | apply List.Mem.tail)) (by first | exact row_a16 | exact row_i35 | exact row_val | exact row_a32 | exact row_e35 | exact row_v35 | exact row_sig | exact row_evi | exact row_half | exact row_dig | exact row_i2 | exact row_i3 | exact row_b3 | exact row_h2 | exact row_pair) ?_) | (refine wpList_mem_num hM rfl _ _ (by rfl) _ _ (by rfl) _ _ _ _ (by repeat (first | exact List.Mem.head _ | apply List.Mem.tail)) (by first | exact one_u8 | exact one_int | exact one_u32 | exact one_bool | exact one_errno | exact one_u16 | exact one_sl) (by omega) ?_)) | ((with_reducible refine at_store ?_); first | (refine wpList_mem_store hM rfl _ _ _ (by rfl) _ (by rfl) _ (by rfl) _ _ _ _ (by repeat (first | exact UpdL.head _ _ _ _ _ | apply UpdL.tail)) (by first | exact row_a16 | exact row_i35 | exact row_val | exact row_a32 | exact row_e35 | exact row_v35 | exact row_sig | exact row_evi | exact row_half | exact row_dig | exact row_i2 | exact row_i3 | exact row_b3 | exact row_h2 | exact row_pair) (by first | assumption | (simp; done) | (simp only [cellsOf_size]; first | assumption | exact half_length _ | exact split_length _ | exact firstV_length _ _ _ | exact stepV_length _ _ _ _ | exact valuesV_length _ _ _) | (simp [*]; done)) (by first | exact vals_one _ _ | exact evc_one | (simp [Value.oneCell']; done)) rfl ?_; clear hM; intro wx hM) | (refine wpList_mem_setnum hM rfl _ _ _ (by rfl) _ _ (by rfl) _ _ (by rfl) _ _ _ _ (by repeat (first | exact UpdL.head _ _ _ _ _ | apply UpdL.tail)) (by first | exact one_u8 | exact one_int | exact one_u32 | exact one_bool | exact one_errno | exact one_u16 | exact one_sl) (by omega) _ (by first | rfl | exact (Int.toNat_of_nonneg (by omega)).symm) rfl ?_; clear hM; intro wx hM)) | ((with_reducible refine at_alloc ?_); refine wpList_mem_zero hM rfl _ (by rfl) _ _ (by first | exact zero_a16 | exact zero_i35 | exact zero_i35' | exact zero_val | exact zero_a32 | exact zero_a32' | exact zero_e35 | exact zero_v35 | exact zero_sig | exact zero_evi | exact zero_half | exact zero_dig | exact zero_int | exact zero_u8 | exact zero_i2 | exact zero_i3 | exact zero_b3 | exact zero_h2 | exact zero_pair) ?_; clear hM; intro gx wx hM) | ((with_reducible refine at_box ?_); refine wpList_mem_box hM rfl _ _ (by rfl) _ (by rfl) _ (by first | exact row_a16 | exact row_i35 | exact row_val | exact row_a32 | exact row_e35 | exact row_v35 | exact row_sig | exact row_evi | exact row_half | exact row_dig | exact row_i2 | exact row_i3 | exact row_b3 | exact row_h2 | exact row_pair) (by first | assumption | (simp; done) | (simp only [cellsOf_size]; first | assumption | exact half_length _ | exact split_length _ | exact firstV_length _ _ _ | exact stepV_length _ _ _ _ | exact valuesV_length _ _ _) | (simp [*]; done)) ?_; clear hM; intro gx wx hM))
  clear eX
  obtain ⟨gE, rfl⟩ := hM.name7
  replace hM := hM.subL (L' := [⟨g22, 23, 16, cellsOf .u8 (piece E c)⟩, ⟨g23, 23, 16, cellsOf .u8 B⟩, ⟨gE, 46, 1156, ev0⟩]) (by repeat (first | exact List.Sublist.refl _ | exact List.nil_sublist _ | apply List.Sublist.cons_cons | apply List.Sublist.cons))
  have M0 := Lib.hid hM
  clear hM
  go_loopw [24] (fun i wr => ∃ (k : Nat) (X Y : List Nat), i = .int .i64 (k : Nat) ∧ Hid (k ≤ 15 ∧ Near leaf c k X Y) ∧ Mem [] w [⟨g22, 23, 16, cellsOf .u8 X⟩, ⟨g23, 23, 16, cellsOf .u8 Y⟩, ⟨gE, 46, 1156, ev0⟩] [] wr) (fun i _ => 15 - (intOf i).toNat)
  case atStart => exact ⟨f, _, _, rfl, Lib.hid ⟨HF15.out, HN.out⟩, M0.out⟩
  case round =>
    obtain ⟨k, X, Y, rfl, hH, hM⟩ := hrel
    have hk := hH.out.2.lt hH.out.1
    have hk' : (k : Int) < 15 := by omega
    have hw : IntKind.i64.wrap ((k : Int) + 1) = (k : Int) + 1 := IntWalk.i64_in _ (by omega)
    have hXl := hH.out.2.p
    have hYl := hH.out.2.q
    obtain ⟨X', hX'⟩ : ∃ X', X' = stepV leaf c k X := ⟨_, rfl⟩
    obtain ⟨Y', hY'⟩ : ∃ Y', Y' = stepV leaf c k Y := ⟨_, rfl⟩
    have hx := HA.out k X hk hXl hH.out.2.pb
    have hy := HA.out k Y hk hYl hH.out.2.qb
    rw [← hX'] at hx
    rw [← hY'] at hy
    have hXl' : X'.length = 16 := by rw [hX']; exact stepV_length _ _ _ _
    have hYl' : Y'.length = 16 := by rw [hY']; exact stepV_length _ _ _ _
    have hXz : (cellsOf .u8 X').size = 16 := by rw [cellsOf_size]; exact hXl'
    have hYz : (cellsOf .u8 Y').size = 16 := by rw [cellsOf_size]; exact hYl'
    have HX := Lib.hid hx
    have HY := Lib.hid hy
    have HS : Hid (X' ≠ Y' → Near leaf c (k + 1) X' Y') := Lib.hid fun h => by rw [hX', hY'] at h ⊢; exact hH.out.2.step hk h
    have HE : Hid (X' = Y' → stepV leaf c k X = stepV leaf c k Y) := Lib.hid fun h => by rw [← hX', ← hY']; exact h
    clear hx hy hX' hY'
    go_wp2_with fail
    refine wp_region_allHB hM (by kernel_rfl) ?_
    clear hM
    intro wd hM
    have HM0 := Lib.hid hM
    have hS := Below.refl wd.heap.size wd
    refine wpAllH_takes [0, 1, 2, 3, 4, 7, 8, 9, 10, 11, 5, 12] (by kernel_rfl) (fun _ _ _ _ _ h => h) hS (by kernel_rfl) ?_
    simp only [pickOps, List.filterMap_cons, List.filterMap_nil, List.getElem?_cons_zero, List.getElem?_cons_succ]
    repeat ((with_reducible apply wpHeld_step); (· rfl); (· (intro wq hSw; first | (go_simp; rfl) | (have hM' := HM0.out.step hSw; first | exact yields_load (C := fun _ => True) (nqc hM') rfl | exact yields_load (C := fun _ => True) (nql hM') rfl | exact yields_load (C := fun _ => True) (nqp hM') rfl | fail))); intro K hK; go_simp; (with_reducible refine hK _ ?_); clear hK K)
    refine wpHeld_nil ?_
    refine wpAllH_floats hS [⟨6, 114, 54, #[.tmp 108, .tmp 109, .tmp 110, .tmp 112, .tmp 113], #[.int .i64 y, .int .i64 (c : Nat), .int .i64 (k : Nat), .int .i64 ((k : Int) + 1), .agg (cellsOf .u8 X)], .agg (cellsOf .u8 X')⟩, ⟨13, 121, 54, #[.tmp 115, .tmp 116, .tmp 117, .tmp 119, .tmp 120], #[.int .i64 y, .int .i64 (c : Nat), .int .i64 (k : Nat), .int .i64 ((k : Int) + 1), .agg (cellsOf .u8 Y)], .agg (cellsOf .u8 Y')⟩] 14 15 16 17 25 26 114 121 ?_ rfl ⟨rfl, rfl, rfl⟩ rfl ⟨rfl, rfl, rfl⟩ rfl ⟨rfl, rfl, rfl⟩ rfl ⟨rfl, rfl, rfl⟩ (by kernel_rfl) (by kernel_rfl) (by kernel_rfl) (by kernel_rfl) (by simp) (by simp) (by simp) (by kernel_rfl) (by kernel_rfl) (.inl ⟨_, List.mem_cons_self, rfl, rfl, by kernel_rfl⟩) (.inl ⟨_, List.mem_cons_of_mem _ List.mem_cons_self, rfl, rfl, by kernel_rfl⟩) zero_a16 zero_a16 row_a16 row_a16 hXz hYz (vals_one _ _) (vals_one _ _) ?_
    · intro t ht
      simp only [List.mem_cons, List.not_mem_nil, or_false] at ht
      rcases ht with rfl | rfl
      · exact ⟨⟨_, _, rfl, rfl, rfl, rfl⟩, by kernel_rfl, (by simp only [List.map_toArray, List.map_cons, List.map_nil]; rfl), Tryd.call54, fun w' hb => HX.out _ (HT.out.keep (Below.step hM.below hb))⟩
      · exact ⟨⟨_, _, rfl, rfl, rfl, rfl⟩, by kernel_rfl, (by simp only [List.map_toArray, List.map_cons, List.map_nil]; rfl), Tryd.call54, fun w' hb => HY.out _ (HT.out.keep (Below.step hM.below hb))⟩
    intro g25 g26 wx hF
    replace hM := hM.frame hF
    simp only [List.cons_append, List.nil_append] at hM
    clear hS HM0 hF
    simp only [List.foldl_cons, List.foldl_nil]
    go_simp
    by_cases hXY : X' = Y'
    · have eY : ∀ W, (Op.equalIn 10000 23 (.agg (cellsOf .u8 X')) (.agg (cellsOf .u8 Y'))).run Tryd.prog W = .ok true W := fun W => by rw [eq_b16 X' Y' hXl' hYl']; simp [hXY]
      have HB := Lib.hid (bld_ev6 2 (c : Nat) (k : Nat) ((k : Int) + 1) X Y hXl hYl)
      have hsz := evc_size (k := 2) (c := (c : Nat)) (f := (k : Nat)) (t := (k : Int) + 1) (⟨hXl, hYl, zeros_length _, zeros_length _⟩ : EvOk X Y (zeros 560) (zeros 560))
      have hE2 := Lib.hid (HE.out hXY)
      clear hXY
      go_wp2_with (first | ((with_reducible refine at_build ?_); refine wpList_build_run rfl _ _ (by rfl) _ (by first | rfl | (simp; done) | (simp; and_intros <;> rfl)) _ (HB.out _) ?_) | ((with_reducible refine at_load_g ?_ ?_); (· rfl); first | (refine wpList_mem_load hM rfl _ _ (by rfl) _ (by rfl) _ _ _ (by repeat (first | exact List.Mem.head _ | apply List.Mem.tail)) (by first | exact row_a16 | exact row_i35 | exact row_val | exact row_a32 | exact row_e35 | exact row_v35 | exact row_sig | exact row_evi | exact row_half | exact row_dig | exact row_i2 | exact row_i3 | exact row_b3 | exact row_h2 | exact row_pair) ?_) | (refine wpList_mem_num hM rfl _ _ (by rfl) _ _ (by rfl) _ _ _ _ (by repeat (first | exact List.Mem.head _ | apply List.Mem.tail)) (by first | exact one_u8 | exact one_int | exact one_u32 | exact one_bool | exact one_errno | exact one_u16 | exact one_sl) (by omega) ?_)) | ((with_reducible refine at_load ?_); first | (refine wpList_mem_load hM rfl _ _ (by rfl) _ (by rfl) _ _ _ (by repeat (first | exact List.Mem.head _ | apply List.Mem.tail)) (by first | exact row_a16 | exact row_i35 | exact row_val | exact row_a32 | exact row_e35 | exact row_v35 | exact row_sig | exact row_evi | exact row_half | exact row_dig | exact row_i2 | exact row_i3 | exact row_b3 | exact row_h2 | exact row_pair) ?_) | (refine wpList_mem_num hM rfl _ _ (by rfl) _ _ (by rfl) _ _ _ _ (by repeat (first | exact List.Mem.head _ | apply List.Mem.tail)) (by first | exact one_u8 | exact one_int | exact one_u32 | exact one_bool | exact one_errno | exact one_u16 | exact one_sl) (by omega) ?_)) | ((with_reducible refine at_store ?_); first | (refine wpList_mem_store hM rfl _ _ _ (by rfl) _ (by rfl) _ (by rfl) _ _ _ _ (by repeat (first | exact UpdL.head _ _ _ _ _ | apply UpdL.tail)) (by first | exact row_a16 | exact row_i35 | exact row_val | exact row_a32 | exact row_e35 | exact row_v35 | exact row_sig | exact row_evi | exact row_half | exact row_dig | exact row_i2 | exact row_i3 | exact row_b3 | exact row_h2 | exact row_pair) (by first | assumption | (simp; done) | (simp only [cellsOf_size]; first | assumption | exact half_length _ | exact split_length _ | exact firstV_length _ _ _ | exact stepV_length _ _ _ _ | exact valuesV_length _ _ _) | (simp [*]; done)) (by first | exact vals_one _ _ | exact evc_one | (simp [Value.oneCell']; done)) rfl ?_; clear hM; intro wx hM) | (refine wpList_mem_setnum hM rfl _ _ _ (by rfl) _ _ (by rfl) _ _ (by rfl) _ _ _ _ (by repeat (first | exact UpdL.head _ _ _ _ _ | apply UpdL.tail)) (by first | exact one_u8 | exact one_int | exact one_u32 | exact one_bool | exact one_errno | exact one_u16 | exact one_sl) (by omega) _ (by first | rfl | exact (Int.toNat_of_nonneg (by omega)).symm) rfl ?_; clear hM; intro wx hM)) | ((with_reducible refine at_alloc ?_); refine wpList_mem_zero hM rfl _ (by rfl) _ _ (by first | exact zero_a16 | exact zero_i35 | exact zero_i35' | exact zero_val | exact zero_a32 | exact zero_a32' | exact zero_e35 | exact zero_v35 | exact zero_sig | exact zero_evi | exact zero_half | exact zero_dig | exact zero_int | exact zero_u8 | exact zero_i2 | exact zero_i3 | exact zero_b3 | exact zero_h2 | exact zero_pair) ?_; clear hM; intro gx wx hM) | ((with_reducible refine at_box ?_); refine wpList_mem_box hM rfl _ _ (by rfl) _ (by rfl) _ (by first | exact row_a16 | exact row_i35 | exact row_val | exact row_a32 | exact row_e35 | exact row_v35 | exact row_sig | exact row_evi | exact row_half | exact row_dig | exact row_i2 | exact row_i3 | exact row_b3 | exact row_h2 | exact row_pair) (by first | assumption | (simp; done) | (simp only [cellsOf_size]; first | assumption | exact half_length _ | exact split_length _ | exact firstV_length _ _ _ | exact stepV_length _ _ _ _ | exact valuesV_length _ _ _) | (simp [*]; done)) ?_; clear hM; intro gx wx hM))
      exact bodyPost_ret (results_mem_cell_tmp hM rfl (by rfl) (by repeat (first | exact List.Mem.head _ | apply List.Mem.tail)) (by first | exact row_a16 | exact row_i35 | exact row_val | exact row_a32 | exact row_e35 | exact row_v35 | exact row_sig | exact row_evi | exact row_half | exact row_dig | exact row_i2 | exact row_i3 | exact row_b3 | exact row_h2 | exact row_pair) (by rfl)) rfl ⟨k, X, Y, hk, hH.out.2, hE2.out, rfl, hM.below⟩
    · have eY : ∀ W, (Op.equalIn 10000 23 (.agg (cellsOf .u8 X')) (.agg (cellsOf .u8 Y'))).run Tryd.prog W = .ok false W := fun W => by rw [eq_b16 X' Y' hXl' hYl']; simp [hXY]
      have HN2 := Lib.hid (HS.out hXY)
      clear hXY
      go_wp2_with (first | ((with_reducible refine at_load_g ?_ ?_); (· rfl); first | (refine wpList_mem_load hM rfl _ _ (by rfl) _ (by rfl) _ _ _ (by repeat (first | exact List.Mem.head _ | apply List.Mem.tail)) (by first | exact row_a16 | exact row_i35 | exact row_val | exact row_a32 | exact row_e35 | exact row_v35 | exact row_sig | exact row_evi | exact row_half | exact row_dig | exact row_i2 | exact row_i3 | exact row_b3 | exact row_h2 | exact row_pair) ?_) | (refine wpList_mem_num hM rfl _ _ (by rfl) _ _ (by rfl) _ _ _ _ (by repeat (first | exact List.Mem.head _ | apply List.Mem.tail)) (by first | exact one_u8 | exact one_int | exact one_u32 | exact one_bool | exact one_errno | exact one_u16 | exact one_sl) (by omega) ?_)) | ((with_reducible refine at_load ?_); first | (refine wpList_mem_load hM rfl _ _ (by rfl) _ (by rfl) _ _ _ (by repeat (first | exact List.Mem.head _ | apply List.Mem.tail)) (by first | exact row_a16 | exact row_i35 | exact row_val | exact row_a32 | exact row_e35 | exact row_v35 | exact row_sig | exact row_evi | exact row_half | exact row_dig | exact row_i2 | exact row_i3 | exact row_b3 | exact row_h2 | exact row_pair) ?_) | (refine wpList_mem_num hM rfl _ _ (by rfl) _ _ (by rfl) _ _ _ _ (by repeat (first | exact List.Mem.head _ | apply List.Mem.tail)) (by first | exact one_u8 | exact one_int | exact one_u32 | exact one_bool | exact one_errno | exact one_u16 | exact one_sl) (by omega) ?_)) | ((with_reducible refine at_store ?_); first | (refine wpList_mem_store hM rfl _ _ _ (by rfl) _ (by rfl) _ (by rfl) _ _ _ _ (by repeat (first | exact UpdL.head _ _ _ _ _ | apply UpdL.tail)) (by first | exact row_a16 | exact row_i35 | exact row_val | exact row_a32 | exact row_e35 | exact row_v35 | exact row_sig | exact row_evi | exact row_half | exact row_dig | exact row_i2 | exact row_i3 | exact row_b3 | exact row_h2 | exact row_pair) (by first | assumption | (simp; done) | (simp only [cellsOf_size]; first | assumption | exact half_length _ | exact split_length _ | exact firstV_length _ _ _ | exact stepV_length _ _ _ _ | exact valuesV_length _ _ _) | (simp [*]; done)) (by first | exact vals_one _ _ | exact evc_one | (simp [Value.oneCell']; done)) rfl ?_; clear hM; intro wx hM) | (refine wpList_mem_setnum hM rfl _ _ _ (by rfl) _ _ (by rfl) _ _ (by rfl) _ _ _ _ (by repeat (first | exact UpdL.head _ _ _ _ _ | apply UpdL.tail)) (by first | exact one_u8 | exact one_int | exact one_u32 | exact one_bool | exact one_errno | exact one_u16 | exact one_sl) (by omega) _ (by first | rfl | exact (Int.toNat_of_nonneg (by omega)).symm) rfl ?_; clear hM; intro wx hM)) | ((with_reducible refine at_alloc ?_); refine wpList_mem_zero hM rfl _ (by rfl) _ _ (by first | exact zero_a16 | exact zero_i35 | exact zero_i35' | exact zero_val | exact zero_a32 | exact zero_a32' | exact zero_e35 | exact zero_v35 | exact zero_sig | exact zero_evi | exact zero_half | exact zero_dig | exact zero_int | exact zero_u8 | exact zero_i2 | exact zero_i3 | exact zero_b3 | exact zero_h2 | exact zero_pair) ?_; clear hM; intro gx wx hM) | ((with_reducible refine at_box ?_); refine wpList_mem_box hM rfl _ _ (by rfl) _ (by rfl) _ (by first | exact row_a16 | exact row_i35 | exact row_val | exact row_a32 | exact row_e35 | exact row_v35 | exact row_sig | exact row_evi | exact row_half | exact row_dig | exact row_i2 | exact row_i3 | exact row_b3 | exact row_h2 | exact row_pair) (by first | assumption | (simp; done) | (simp only [cellsOf_size]; first | assumption | exact half_length _ | exact split_length _ | exact firstV_length _ _ _ | exact stepV_length _ _ _ _ | exact valuesV_length _ _ _) | (simp [*]; done)) ?_; clear hM; intro gx wx hM))
      refine wp_region_allT (fun w' => ∃ Z, Mem [] w [⟨g25, 23, 16, cellsOf .u8 X'⟩, ⟨g26, 23, 16, cellsOf .u8 Y'⟩, ⟨g22, 23, 16, cellsOf .u8 Z⟩, ⟨g23, 23, 16, cellsOf .u8 Y⟩, ⟨gE, 46, 1156, ev0⟩] [] w') 3 (by kernel_rfl) ?_
      replace hM := hM.drew
      generalize wx.drew = wd at hM ⊢
      have hS := Exists.intro (p := fun Z => Mem [] w [⟨g25, 23, 16, cellsOf .u8 X'⟩, ⟨g26, 23, 16, cellsOf .u8 Y'⟩, ⟨g22, 23, 16, cellsOf .u8 Z⟩, ⟨g23, 23, 16, cellsOf .u8 Y⟩, ⟨gE, 46, 1156, ev0⟩] [] wd) _ hM
      refine wpAllT_takes [0, 1] (by kernel_rfl) (fun _ _ _ _ _ h => h) hS (by kernel_rfl) ?_
      simp only [pickOps, List.filterMap_cons, List.filterMap_nil, List.getElem?_cons_zero, List.getElem?_cons_succ]
      repeat ((with_reducible apply wpHeld_step); (· rfl); (· (intro wq hSw; first | (go_simp; rfl) | ((obtain ⟨_, hM'⟩ := hSw; exact yields_load (C := fun _ => True) (nql hM') rfl)))); intro K hK; go_simp; (with_reducible refine hK _ ?_); clear hK K)
      refine wpHeld_nil ?_
      refine wpAllT_one 2 rfl (by kernel_rfl) ?_
      refine wpList_mem_store hM rfl _ _ _ (by rfl) _ (by rfl) _ (by rfl) _ _ _ _ (by repeat (first | exact UpdL.head _ _ _ _ _ | apply UpdL.tail)) (by first | exact row_a16 | exact row_i35 | exact row_val | exact row_a32 | exact row_e35 | exact row_v35 | exact row_sig | exact row_evi | exact row_half | exact row_dig | exact row_i2 | exact row_i3 | exact row_b3 | exact row_h2 | exact row_pair) (by first | assumption | (simp; done) | (simp only [cellsOf_size]; first | assumption | exact half_length _ | exact split_length _ | exact firstV_length _ _ _ | exact stepV_length _ _ _ _ | exact valuesV_length _ _ _) | (simp [*]; done)) (by first | exact vals_one _ _ | exact evc_one | (simp [Value.oneCell']; done)) rfl ?_
      clear hM hS
      intro wy hM
      refine wpList_then ⟨.inr ⟨_, hM⟩, ?_⟩
      refine wpAllT_one 3 rfl (by kernel_rfl) ?_
      refine wpList_mem_store hM rfl _ _ _ (by rfl) _ (by rfl) _ (by rfl) _ _ _ _ (by repeat (first | exact UpdL.head _ _ _ _ _ | apply UpdL.tail)) (by first | exact row_a16 | exact row_i35 | exact row_val | exact row_a32 | exact row_e35 | exact row_v35 | exact row_sig | exact row_evi | exact row_half | exact row_dig | exact row_i2 | exact row_i3 | exact row_b3 | exact row_h2 | exact row_pair) (by first | assumption | (simp; done) | (simp only [cellsOf_size]; first | assumption | exact half_length _ | exact split_length _ | exact firstV_length _ _ _ | exact stepV_length _ _ _ _ | exact valuesV_length _ _ _) | (simp [*]; done)) (by first | exact vals_one _ _ | exact evc_one | (simp [Value.oneCell']; done)) rfl ?_
      clear hM
      intro wz hM
      refine wpList_then ⟨.inl (by kernel_rfl), wpAllT_drop (by kernel_rfl) (wpAll_done (by kernel_rfl) ?_)⟩
      go_wp2_with fail
      exact ⟨⟨k + 1, X', Y', by go_num, Lib.hid ⟨by omega, HN2.out⟩, hM.subL (by repeat (first | exact List.Sublist.refl _ | exact List.nil_sublist _ | apply List.Sublist.cons_cons | apply List.Sublist.cons))⟩, by simp [intOf]; omega⟩
end Go.Proofs.YtbbdnlcjjcmllaaDoor.Once
namespace Go.Proofs.YtbbdnlcjjcmllaaDoor.Once
open Go Go.RowKit Go.Bul Go.Bul.Hp
theorem extract_ok (a E b F : List Nat) (leaf : Nat) (y : Int) (w : World) (ha : a.length = 16) (hab : Bytes a) (hE : E.length = 560) (hEb : Bytes E) (hb : b.length = 16) (hbb : Bytes b) (hF : F.length = 560) (hFb : Bytes F) (hT : Tab w) (hl : leaf ≤ 65535) (hy : y = (leaf : Int))
    (hne : a ≠ b) (hr : recV leaf a E = recV leaf b F) :
    Calls Tryd.prog 28 #[.int .i64 y, .agg (cellsOf .u8 a), .agg (cellsOf .u8 E), .agg (cellsOf .u8 b), .agg (cellsOf .u8 F)] w fun e w' => ∃ k c f t A B X Y, GoodEv leaf k c f t A B X Y ∧ e = .returned (.tuple #[.agg (evc k c f t A B X Y), .int .i64 0]) ∧ Below w.heap.size w w' := by
  by_cases hls : lastV leaf a E = lastV leaf b F
  · obtain ⟨c, hlow⟩ := lower_ne ha hb hbb hne
    have hc := lower_some hlow
    have h15 := split_le hab c
    have hpE := piece_length (n := 35) hE hc.1
    have hpF := piece_length (n := 35) hF hc.1
    by_cases hAB : piece E c = advV leaf c (nth (split b) c) (nth (split a) c - nth (split b) c) (piece F c)
    · refine (extract_pre a E b F leaf c y w ha hab hE hEb hb hbb hF hFb hT hl hy hne hls hlow hAB).mono fun e w' ⟨he, hw⟩ => ⟨_, _, _, _, _, _, _, _, .inl ⟨rfl, hpF, hpE, bytes_piece hFb c, rfl, rfl, c, _, _, rfl, rfl, rfl, hc.1, hc.2, h15, hAB.symm⟩, he, hw⟩
    · refine (extract_col a E b F leaf c y w ha hab hE hEb hb hbb hF hFb hT hl hy hne hls hlow hAB).mono fun e w' ⟨k, X, Y, hk, hN, hs, he, hw⟩ => ⟨_, _, _, _, _, _, _, _, .inr (.inl ⟨rfl, hN.p, hN.q, hN.pb, hN.qb, rfl, rfl, c, k, rfl, rfl, rfl, hc.1, hk, hN.ne, hs⟩), he, hw⟩
  · exact (extract_ends a E b F leaf y w ha hab hE hEb hb hbb hF hFb hT hl hy hne hr hls).mono fun e w' ⟨he, hw⟩ => ⟨_, _, _, _, _, _, _, _, .inr (.inr ⟨rfl, rfl, rfl, rfl, rfl, rfl, lastV_length' leaf a E hE, lastV_length' leaf b F hF, bytes_lastV leaf a E hEb, bytes_lastV leaf b F hFb, hls, hr⟩), he, hw⟩
end Go.Proofs.YtbbdnlcjjcmllaaDoor.Once
namespace Go.Bul.Hp
/-- Where two values of a chain have come to. -/
structure Apart (leaf c k : Nat) (X Y : List Nat) (m : Nat) (P Q : List Nat) : Prop where
  m15 : m ≤ 15
  p : P.length = 16
  q : Q.length = 16
  pb : Bytes P
  qb : Bytes Q
  ne : P ≠ Q
  ep : advV leaf c m (15 - m) P = advV leaf c k (15 - k) X
  eq : advV leaf c m (15 - m) Q = advV leaf c k (15 - k) Y
theorem Apart.step {leaf c k m : Nat} {X Y P Q : List Nat} (h : Apart leaf c k X Y m P Q) (hm : m < 15) (hne : stepV leaf c m P ≠ stepV leaf c m Q) : Apart leaf c k X Y (m + 1) (stepV leaf c m P) (stepV leaf c m Q) := by
  have e1 := h.ep
  have e2 := h.eq
  rw [show 15 - m = 15 - (m + 1) + 1 by omega] at e1 e2
  exact ⟨hm, stepV_length _ _ _ _, stepV_length _ _ _ _, bytes_stepV _ _ _ _, bytes_stepV _ _ _ _, hne, e1, e2⟩
theorem Apart.meets {leaf c k m : Nat} {X Y P Q : List Nat} (h : Apart leaf c k X Y m P Q) (hm : m < 15) (he : stepV leaf c m P = stepV leaf c m Q) : advV leaf c k (15 - k) X = advV leaf c k (15 - k) Y := by
  rw [← h.ep, ← h.eq, show 15 - m = 14 - m + 1 by omega]
  show advV leaf c (m + 1) (14 - m) (stepV leaf c m P) = advV leaf c (m + 1) (14 - m) (stepV leaf c m Q)
  rw [he]
theorem Apart.ends {leaf c k m : Nat} {X Y P Q : List Nat} (h : Apart leaf c k X Y m P Q) (hm : m = 15) : advV leaf c k (15 - k) X ≠ advV leaf c k (15 - k) Y := by
  rw [← h.ep, ← h.eq, hm]
  exact h.ne
end Go.Bul.Hp
namespace Go.Proofs.YtbbdnlcjjcmllaaDoor.Once
open Go Go.RowKit Go.Bul Go.Bul.Hp
set_option maxRecDepth 20000 in
set_option maxHeartbeats 4000000 in
theorem meet_any (X Y : List Nat) (leaf c k : Nat) (y z p : Int) (w : World) (hX : X.length = 16) (hXb : Bytes X) (hY : Y.length = 16) (hYb : Bytes Y) (hne : X ≠ Y) (hl : leaf ≤ 65535) (hc : c < 35) (hk : k ≤ 15) (hy : y = (leaf : Int)) (hz : z = (c : Int)) (hp : p = (k : Int)) (hT : Tab w) :
    Calls Tryd.prog 34 #[.int .i64 y, .int .i64 z, .int .i64 p, .agg (cellsOf .u8 X), .agg (cellsOf .u8 Y)] w fun e w' =>
      e = .returned (.bool (advV leaf c k (15 - k) X == advV leaf c k (15 - k) Y)) ∧ Below w.heap.size w w' := by
  have hM := Mem.start [] w
  have HS : Hid (∀ (m : Nat) (P : List Nat), m < 15 → P.length = 16 → Bytes P → ∀ w', Below w.heap.size w w' → Calls Tryd.prog 37 #[.int .i64 y, .int .i64 (c : Nat), .int .i64 (m : Nat), .agg (cellsOf .u8 P)] w' fun e w'' => e = .returned (.tuple #[.agg (cellsOf .u8 (stepV leaf c m P)), .int .i64 0]) ∧ Below w'.heap.size w' w'') := Lib.hid fun m P hm hP hPb w' hb => step_yes P leaf c m y (c : Nat) (m : Nat) w' hP hPb hl hc hm hy rfl rfl (hT.keep hb)
  have HA : Hid (Apart leaf c k X Y k X Y) := Lib.hid ⟨hk, hX, hY, hXb, hYb, hne, rfl, rfl⟩
  obtain ⟨R, hR⟩ : ∃ R, R = (advV leaf c k (15 - k) X == advV leaf c k (15 - k) Y) := ⟨_, rfl⟩
  have HR := Lib.hid hR
  rw [← hR]
  subst hz hp
  clear hR hl hy hk hXb hYb hne hT
  go_enter Tryd.func34, Tryd.ntmps34
  go_wp2_with (first | ((first | with_reducible refine at_load ?_ | ((with_reducible refine at_load_g ?_ ?_); (· rfl))); first | refine kll hM ?_ | refine kln hM ?_) | ((with_reducible refine at_store ?_); (first | refine klw hM ?_ | refine kls hM ?_); clear hM; intro wx hM) | ((with_reducible refine at_alloc ?_); refine klz hM ?_; clear hM; intro gx wx hM) | ((with_reducible refine at_box ?_); refine klb hM ?_; clear hM; intro gx wx hM))
  obtain ⟨g9, rfl⟩ := hM.name1
  obtain ⟨g8, rfl⟩ := hM.name2
  have M0 := Lib.hid hM
  clear hM
  go_loopw [11] (fun i wr => ∃ (m : Nat) (P Q : List Nat), i = .int .i64 (m : Nat) ∧ Hid (Apart leaf c k X Y m P Q) ∧ Mem [] w [⟨g9, 23, 16, cellsOf .u8 Q⟩, ⟨g8, 23, 16, cellsOf .u8 P⟩] [] wr) (fun i _ => 15 - (intOf i).toNat)
  case atStart => exact ⟨k, X, Y, rfl, HA, M0.out⟩
  case round =>
    obtain ⟨m, P, Q, rfl, hH, hM⟩ := hrel
    have hm15 := hH.out.m15
    have hPl := hH.out.p
    have hQl := hH.out.q
    by_cases hlt : m < 15
    · have hm' : (m : Int) < 15 := by omega
      obtain ⟨P', hP'⟩ : ∃ P', P' = stepV leaf c m P := ⟨_, rfl⟩
      obtain ⟨Q', hQ'⟩ : ∃ Q', Q' = stepV leaf c m Q := ⟨_, rfl⟩
      have hx := HS.out m P hlt hPl hH.out.pb
      have hy := HS.out m Q hlt hQl hH.out.qb
      rw [← hP'] at hx
      rw [← hQ'] at hy
      have hPl' : P'.length = 16 := by rw [hP']; exact stepV_length _ _ _ _
      have hQl' : Q'.length = 16 := by rw [hQ']; exact stepV_length _ _ _ _
      have HX := Lib.hid hx
      have HY := Lib.hid hy
      have HN : Hid (P' ≠ Q' → Apart leaf c k X Y (m + 1) P' Q') := Lib.hid fun h => by rw [hP', hQ'] at h ⊢; exact hH.out.step hlt h
      have HP2 : Hid (P' = Q' → stepV leaf c m P = stepV leaf c m Q) := Lib.hid fun h => by rw [← hP', ← hQ']; exact h
      have eN : ∀ W, (Op.equalIn 10000 23 (.agg (cellsOf .u8 P)) (.agg (cellsOf .u8 Q))).run Tryd.prog W = .ok false W := fun W => by rw [eq_b16 P Q hPl hQl]; simp [hH.out.ne]
      have EN := Lib.hid eN
      clear hx hy hP' hQ' eN
      go_wp2_with (first | ((first | with_reducible refine at_load ?_ | ((with_reducible refine at_load_g ?_ ?_); (· rfl))); first | refine kll hM ?_ | refine kln hM ?_) | ((with_reducible refine at_store ?_); (first | refine klw hM ?_ | refine kls hM ?_); clear hM; intro wx hM) | ((with_reducible refine at_alloc ?_); refine klz hM ?_; clear hM; intro gx wx hM) | ((with_reducible refine at_box ?_); refine klb hM ?_; clear hM; intro gx wx hM))
      (refine (HX.out _ hM.below).mono ?_)
      rintro e w1 ⟨rfl, hb1⟩
      replace hM := hM.step hb1
      clear hb1
      go_wp2_with (first | ((first | with_reducible refine at_load ?_ | ((with_reducible refine at_load_g ?_ ?_); (· rfl))); first | refine kll hM ?_ | refine kln hM ?_) | ((with_reducible refine at_store ?_); (first | refine klw hM ?_ | refine kls hM ?_); clear hM; intro wx hM) | ((with_reducible refine at_alloc ?_); refine klz hM ?_; clear hM; intro gx wx hM) | ((with_reducible refine at_box ?_); refine klb hM ?_; clear hM; intro gx wx hM))
      (refine (HY.out _ hM.below).mono ?_)
      rintro e w1 ⟨rfl, hb1⟩
      replace hM := hM.step hb1
      clear hb1
      have eN := EN.out
      by_cases hPQ : P' = Q'
      · have eY : ∀ W, (Op.equalIn 10000 23 (.agg (cellsOf .u8 P')) (.agg (cellsOf .u8 Q'))).run Tryd.prog W = .ok true W := fun W => by rw [eq_b16 P' Q' hPl' hQl']; simp [hPQ]
        have HT1 : Hid (R = true) := Lib.hid (by rw [HR.out, beq_iff_eq]; exact hH.out.meets hlt (HP2.out hPQ))
        clear hPQ
        go_wp2_with (first | ((first | with_reducible refine at_load ?_ | ((with_reducible refine at_load_g ?_ ?_); (· rfl))); first | refine kll hM ?_ | refine kln hM ?_) | ((with_reducible refine at_store ?_); (first | refine klw hM ?_ | refine kls hM ?_); clear hM; intro wx hM) | ((with_reducible refine at_alloc ?_); refine klz hM ?_; clear hM; intro gx wx hM) | ((with_reducible refine at_box ?_); refine klb hM ?_; clear hM; intro gx wx hM))
        go_ret
        obtain rfl := HT1.out
        exact ⟨rfl, hM.below⟩
      · have eY : ∀ W, (Op.equalIn 10000 23 (.agg (cellsOf .u8 P')) (.agg (cellsOf .u8 Q'))).run Tryd.prog W = .ok false W := fun W => by rw [eq_b16 P' Q' hPl' hQl']; simp [hPQ]
        have HN2 := Lib.hid (HN.out hPQ)
        clear hPQ
        go_wp2_with (first | ((first | with_reducible refine at_load ?_ | ((with_reducible refine at_load_g ?_ ?_); (· rfl))); first | refine kll hM ?_ | refine kln hM ?_) | ((with_reducible refine at_store ?_); (first | refine klw hM ?_ | refine kls hM ?_); clear hM; intro wx hM) | ((with_reducible refine at_alloc ?_); refine klz hM ?_; clear hM; intro gx wx hM) | ((with_reducible refine at_box ?_); refine klb hM ?_; clear hM; intro gx wx hM))
        obtain ⟨g14, rfl⟩ := hM.name1
        obtain ⟨g12, rfl⟩ := hM.name2
        refine wp_region_allT (fun w' => ∃ Z, Mem [] w [⟨g14, 23, 16, cellsOf .u8 Q'⟩, ⟨g12, 23, 16, cellsOf .u8 P'⟩, ⟨g9, 23, 16, cellsOf .u8 Q⟩, ⟨g8, 23, 16, cellsOf .u8 Z⟩] [] w') 3 (by kernel_rfl) ?_
        replace hM := hM.drew
        have hS := Exists.intro (p := fun Z => Mem [] w [⟨g14, 23, 16, cellsOf .u8 Q'⟩, ⟨g12, 23, 16, cellsOf .u8 P'⟩, ⟨g9, 23, 16, cellsOf .u8 Q⟩, ⟨g8, 23, 16, cellsOf .u8 Z⟩] [] _) _ hM
        refine wpAllT_takes [0, 1] (by kernel_rfl) (fun _ _ _ _ _ h => h) hS (by kernel_rfl) ?_
        simp only [pickOps, List.filterMap_cons, List.filterMap_nil, List.getElem?_cons_zero, List.getElem?_cons_succ]
        repeat ((with_reducible apply wpHeld_step); (· rfl); (· (intro wq hSw; first | (go_simp; rfl) | ((obtain ⟨_, hM'⟩ := hSw; exact yields_load (C := fun _ => True) (nql hM') rfl)))); intro K hK; go_simp; (with_reducible refine hK _ ?_); clear hK K)
        refine wpHeld_nil ?_
        refine wpAllT_one 2 rfl (by kernel_rfl) ?_
        refine wpList_mem_store hM rfl _ _ _ (by rfl) _ (by rfl) _ (by rfl) _ _ _ _ (by repeat (first | exact UpdL.head _ _ _ _ _ | apply UpdL.tail)) (by first | exact row_a16 | exact row_i35 | exact row_val | exact row_a32 | exact row_e35 | exact row_v35 | exact row_sig | exact row_evi | exact row_half | exact row_dig | exact row_i2 | exact row_i3 | exact row_b3 | exact row_h2 | exact row_pair) (by first | assumption | (simp; done) | (simp only [cellsOf_size]; first | assumption | exact half_length _ | exact split_length _ | exact firstV_length _ _ _ | exact stepV_length _ _ _ _ | exact valuesV_length _ _ _) | (simp [*]; done)) (by first | exact vals_one _ _ | exact evc_one | (simp [Value.oneCell']; done)) rfl ?_
        clear hM hS
        intro wy hM
        refine wpList_then ⟨.inr ⟨_, hM⟩, ?_⟩
        refine wpAllT_one 3 rfl (by kernel_rfl) ?_
        refine wpList_mem_store hM rfl _ _ _ (by rfl) _ (by rfl) _ (by rfl) _ _ _ _ (by repeat (first | exact UpdL.head _ _ _ _ _ | apply UpdL.tail)) (by first | exact row_a16 | exact row_i35 | exact row_val | exact row_a32 | exact row_e35 | exact row_v35 | exact row_sig | exact row_evi | exact row_half | exact row_dig | exact row_i2 | exact row_i3 | exact row_b3 | exact row_h2 | exact row_pair) (by first | assumption | (simp; done) | (simp only [cellsOf_size]; first | assumption | exact half_length _ | exact split_length _ | exact firstV_length _ _ _ | exact stepV_length _ _ _ _ | exact valuesV_length _ _ _) | (simp [*]; done)) (by first | exact vals_one _ _ | exact evc_one | (simp [Value.oneCell']; done)) rfl ?_
        clear hM
        intro wz hM
        refine wpList_then ⟨.inl (by kernel_rfl), wpAllT_drop (by kernel_rfl) (wpAll_done (by kernel_rfl) ?_)⟩
        go_wp2_with fail
        exact ⟨⟨m + 1, P', Q', by go_num, HN2, hM.subL (by repeat (first | exact List.Sublist.refl _ | exact List.nil_sublist _ | apply List.Sublist.cons_cons | apply List.Sublist.cons))⟩, by simp [intOf]; omega⟩
    · have hm' : ¬ ((m : Int) < 15) := by omega
      have HD : Hid (R = false) := Lib.hid (by rw [HR.out, beq_eq_false_iff_ne]; exact hH.out.ends (by omega))
      go_wp2_with (first | ((first | with_reducible refine at_load ?_ | ((with_reducible refine at_load_g ?_ ?_); (· rfl))); first | refine kll hM ?_ | refine kln hM ?_) | ((with_reducible refine at_store ?_); (first | refine klw hM ?_ | refine kls hM ?_); clear hM; intro wx hM) | ((with_reducible refine at_alloc ?_); refine klz hM ?_; clear hM; intro gx wx hM) | ((with_reducible refine at_box ?_); refine klb hM ?_; clear hM; intro gx wx hM))
      go_ret
      obtain rfl := HD.out
      exact ⟨rfl, hM.below⟩
end Go.Proofs.YtbbdnlcjjcmllaaDoor.Once
