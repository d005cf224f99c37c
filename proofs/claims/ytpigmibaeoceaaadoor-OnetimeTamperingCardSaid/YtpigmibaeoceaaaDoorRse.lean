/- Contracts of the reference's Secret and Step. Conditions: leaf, chain, step in range. -/
import Derived.Test.YtpigmibaeoceaaaDoorRha
import Derived.Test.YtpigmibaeoceaaaDoorFir
import Derived.Test.YtpigmibaeoceaaaDoorZh
import Derived.IntWalk
namespace Go.Proofs.YtpigmibaeoceaaaDoor
open Go Go.RowKit Go.Bul
set_option maxRecDepth 20000 in
set_option maxHeartbeats 1000000 in
theorem rstep_any (v : List Nat) (leaf chain s : Nat) (y z p : Int) (w : World) (hv : v.length = 16) (hb : Bytes v) (hl : leaf ≤ 65535) (hc : chain < 35) (hs : s < 15) (hy : y = (leaf : Int)) (hz : z = (chain : Int)) (hp : p = (s : Int)) :
    Calls Tryd.prog 24 #[.int .i64 y, .int .i64 z, .int .i64 p, .agg (cellsOf .u8 v)] w fun e w' => e = .returned (.agg (cellsOf .u8 (stepV leaf chain s v))) ∧ Below w.heap.size w w' := by
  subst hy hz hp
  have hM := Mem.start [] w
  have HB := Lib.hid hb
  have I2 := Lib.hid (fun w => rhead_any 3 leaf 3 leaf w (by omega) hl rfl rfl)
  have hc' : (chain : Int) < 35 := by omega
  have hs' : (s : Int) < 15 := by omega
  have hbs := Lib.hid (bytes_step hb leaf chain s (by omega) (by omega))
  have e1 := Lib.hid (show half (headb 3 leaf ++ [chain, s] ++ v) = stepV leaf chain s v by unfold stepV; simp)
  clear hb
  have wc : IntKind.u8.wrap (chain : Int) = (chain : Int) := IntWalk.u8_in _ (by omega)
  have ws : IntKind.u8.wrap (s : Int) = (s : Int) := IntWalk.u8_in _ (by omega)
  go_enter Tryd.func24, Tryd.ntmps24
  go_wp2_with (first | ((with_reducible refine at_load_g ?_ ?_); (· rfl); first | (refine wpList_mem_load hM rfl _ _ (by rfl) _ (by rfl) _ _ _ (by repeat (first | exact List.Mem.head _ | apply List.Mem.tail)) (by first | exact row_a16 | exact row_i35 | exact row_val | exact row_a32 | exact row_e35 | exact row_v35 | exact row_sig | exact row_evi | exact row_half | exact row_dig | exact row_i2 | exact row_i3 | exact row_b3 | exact row_h2 | exact row_pair) ?_) | (refine wpList_mem_num hM rfl _ _ (by rfl) _ _ (by rfl) _ _ _ _ (by repeat (first | exact List.Mem.head _ | apply List.Mem.tail)) (by first | exact one_u8 | exact one_int | exact one_u32 | exact one_bool | exact one_errno | exact one_u16 | exact one_sl) (by omega) ?_)) | ((with_reducible refine at_load ?_); first | (refine wpList_mem_load hM rfl _ _ (by rfl) _ (by rfl) _ _ _ (by repeat (first | exact List.Mem.head _ | apply List.Mem.tail)) (by first | exact row_a16 | exact row_i35 | exact row_val | exact row_a32 | exact row_e35 | exact row_v35 | exact row_sig | exact row_evi | exact row_half | exact row_dig | exact row_i2 | exact row_i3 | exact row_b3 | exact row_h2 | exact row_pair) ?_) | (refine wpList_mem_num hM rfl _ _ (by rfl) _ _ (by rfl) _ _ _ _ (by repeat (first | exact List.Mem.head _ | apply List.Mem.tail)) (by first | exact one_u8 | exact one_int | exact one_u32 | exact one_bool | exact one_errno | exact one_u16 | exact one_sl) (by omega) ?_)) | ((with_reducible refine at_store ?_); first | (refine wpList_mem_store hM rfl _ _ _ (by rfl) _ (by rfl) _ (by rfl) _ _ _ _ (by repeat (first | exact UpdL.head _ _ _ _ _ | apply UpdL.tail)) (by first | exact row_a16 | exact row_i35 | exact row_val | exact row_a32 | exact row_e35 | exact row_v35 | exact row_sig | exact row_evi | exact row_half | exact row_dig | exact row_i2 | exact row_i3 | exact row_b3 | exact row_h2 | exact row_pair) (by first | assumption | (simp; done) | (simp only [cellsOf_size]; first | assumption | exact half_length _ | exact split_length _ | exact firstV_length _ _ _ | exact stepV_length _ _ _ _ | exact valuesV_length _ _ _) | (simp [*]; done)) (by first | exact vals_one _ _ | exact evc_one | (simp [Value.oneCell']; done)) rfl ?_; clear hM; intro wx hM) | (refine wpList_mem_setnum hM rfl _ _ _ (by rfl) _ _ (by rfl) _ _ (by rfl) _ _ _ _ (by repeat (first | exact UpdL.head _ _ _ _ _ | apply UpdL.tail)) (by first | exact one_u8 | exact one_int | exact one_u32 | exact one_bool | exact one_errno | exact one_u16 | exact one_sl) (by omega) _ (by first | rfl | exact (Int.toNat_of_nonneg (by omega)).symm) rfl ?_; clear hM; intro wx hM)) | ((with_reducible refine at_alloc ?_); refine wpList_mem_zero hM rfl _ (by rfl) _ _ (by first | exact zero_a16 | exact zero_i35 | exact zero_i35' | exact zero_val | exact zero_a32 | exact zero_a32' | exact zero_e35 | exact zero_v35 | exact zero_sig | exact zero_evi | exact zero_half | exact zero_dig | exact zero_int | exact zero_u8 | exact zero_i2 | exact zero_i3 | exact zero_b3 | exact zero_h2 | exact zero_pair) ?_; clear hM; intro gx wx hM) | ((with_reducible refine at_box ?_); refine wpList_mem_box hM rfl _ _ (by rfl) _ (by rfl) _ (by first | exact row_a16 | exact row_i35 | exact row_val | exact row_a32 | exact row_e35 | exact row_v35 | exact row_sig | exact row_evi | exact row_half | exact row_dig | exact row_i2 | exact row_i3 | exact row_b3 | exact row_h2 | exact row_pair) (by first | assumption | (simp; done) | (simp only [cellsOf_size]; first | assumption | exact half_length _ | exact split_length _ | exact firstV_length _ _ _ | exact stepV_length _ _ _ _ | exact valuesV_length _ _ _) | (simp [*]; done)) ?_; clear hM; intro gx wx hM))
  replace hM := hM.drew
  go_region_law (first
    | (refine step_plain rfl ?_; (try ((first | with_reducible refine owp_new .u8 [chain, s] hM ?_ ?_ | with_reducible refine owp_new_drew .u8 [chain, s] hM ?_ ?_); (· rfl); clear hM; intro wx hM)); first
      | (go_simp; (refine (I2.out _).mono ?_); rintro e w1 ⟨vx, rfl, hb1, ho⟩; replace hM := Mem.row_new hM hb1 ho; clear hb1 ho)
      | (go_simp; (refine (rhalf_row hM (by repeat (first | exact List.Mem.head _ | apply List.Mem.tail)) hbs.out (by simp [headb_length, hv])).mono ?_); rintro e w2 ⟨rfl, hb2⟩; replace hM := hM.step hb2; rw [e1.out]; have hlen := stepV_length leaf chain s v; have hst := store_run (P := Tryd.prog) hM (n := 16) (cs := cellsOf .u8 (zeros 16)) (t := 34) (vs := cellsOf .u8 (stepV leaf chain s v)) (by repeat (first | exact List.Mem.head _ | apply List.Mem.tail)) (by simp [hlen]) (vals_one _ _))
      | (refine owp_bytes hM _ _ _ (by rfl) Tryd.underlying67 _ (by rfl) _ _ (by repeat (first | exact UpdR.head _ _ | apply UpdR.tail)) _ _ _ (by rfl) _ _ (ent_rd_whole hM (by repeat (first | exact List.Mem.head _ | apply List.Mem.tail)) (by first | assumption | exact HB.out | exact bytes_half _ | exact Bytes.cons (by omega) Bytes.nil | exact Bytes.cons (by omega) (Bytes.cons (by omega) Bytes.nil))) (by first | (simp [headb_length]; done) | (simp [headb_length, *]; done) | (simp [headb_length]; omega)) ?_; clear hM; intro Ax Nx cx wx HN hM)))
  all_goals
    have hM := hM.putRow (vs := cellsOf .u8 (stepV leaf chain s v)) (cs := cellsOf .u8 (zeros 16)) (t := 34) (by repeat (first | exact UpdL.head _ _ _ _ _ | apply UpdL.tail)) (by simp [hlen])
    clear hst
    go_wp2_with fail
    exact bodyPost_ret (results_mem_cell hM rfl (by rfl) (by repeat (first | exact List.Mem.head _ | apply List.Mem.tail)) (by first | exact row_a16 | exact row_i35 | exact row_val | exact row_a32 | exact row_e35 | exact row_v35 | exact row_sig | exact row_evi | exact row_half | exact row_dig | exact row_i2 | exact row_i3 | exact row_b3 | exact row_h2 | exact row_pair)) rfl ⟨rfl, hM.below⟩
end Go.Proofs.YtpigmibaeoceaaaDoor
