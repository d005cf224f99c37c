/- Contracts of the reference's rotate (at ten counts) and constants. Condition of rotate: the word is below 2^32. -/
import Derived.Test.YtdnnjgjaffkdfaaDoorVg
namespace Go.Proofs.YtdnnjgjaffkdfaaDoor
open Go Go.RowKit Go.Bul
theorem rot_math' (x n : Nat) (hx : x < 4294967296) (a b : Int) (ha : a = ((x / 2 ^ n : Nat) : Int)) (hb : b = ((x * 2 ^ (32 - n) % 4294967296 : Nat) : Int)) : bits .or .u32 a b = ((Bul.rotr x n : Nat) : Int) := by
  rw [ha, hb, u32_or_nat _ _ (Nat.lt_of_le_of_lt (Nat.div_le_self _ _) hx) (Nat.mod_lt _ (by decide)), Bul.rotr, Nat.shiftRight_eq_div_pow, Nat.shiftLeft_eq]
set_option maxRecDepth 20000 in
set_option maxHeartbeats 1000000 in
theorem ref_rot (x n : Nat) (w : World) (hx : x < 4294967296) (hn : IsRot n) (y : Int) (hy : y = (n : Int)) :
    Calls Tryd.prog 116 #[.int .u32 x, .int .i64 y] w fun e w' => e = .returned (.int .u32 (Bul.rotr x n : Nat)) ∧ ∃ m, w' = w.drewN m := by
  subst hy
  rcases hn with rfl | rfl | rfl | rfl | rfl | rfl | rfl | rfl | rfl | rfl
  all_goals
    go_enter Tryd.func116, Tryd.ntmps116
    go_wp2_with fail
    go_quiet (fail)
    go_wp2_with fail
    go_ret
    exact ⟨ret_u32 (rot_math' x _ hx _ _ (by simp) (by simp)), _, rfl⟩
theorem zero_w64 : (Tryd.prog.info? 178).map (·.zero) = some (some (.agg (cellsOf .u32 (List.replicate 64 0)))) := by kernel_rfl
theorem size_w64 : (Tryd.prog.info? 178).map (·.size) = some 64 := by kernel_rfl
set_option maxRecDepth 20000 in
set_option maxHeartbeats 2000000 in
theorem ref_const (w : World) : Calls Tryd.prog 113 #[] w fun e w' => e = .returned (.agg (cellsOf .u32 Bul.ks)) ∧ Below w.heap.size w w' := by
  go_enter Tryd.func113, Tryd.ntmps113
  go_wp2_with (first
    | (with_reducible refine wpList_alloc_zero rfl 178 rfl _ zero_w64 ?_)
    | (refine wpList_store_blk rfl 178 (.tmp 0) (.tmp 1) rfl w.heap.size rfl (cellsOf .u32 Bul.ks) rfl 178 (cellsOf .u32 (List.replicate 64 0)) 64 (Blk.new w _ _) size_w64 rfl (by simp) (vals_one _ _) rfl ?_; intro w5 hw5; have HW5 := Lib.hid hw5; clear hw5))
  exact bodyPost_ret (results_cell_row rfl _ _ w.heap.size _ _ _ _ rfl (by rw [HW5.out]; exact (Blk.new w _ _).row _) Tryd.underlying178 rfl (by rw [size_w64]; rfl)) rfl ⟨rfl, by rw [HW5.out]; exact below_setRow ((Below.refl _ _).alloc (Nat.le_refl _) _) (Nat.le_refl _) _⟩
end Go.Proofs.YtdnnjgjaffkdfaaDoor
