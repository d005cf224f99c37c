/- Contracts of math/bits.RotateLeft32 (at the counts that the program uses) and sha256.rotate. Conditions: the word is below 2^32, the count is one of ten. -/
import Derived.Test.YtcfojkecmchbdaaDoorProg
import Derived.Test.YtcfojkecmchbdaaDoorShb
import Derived.WalkKit
import Derived.Lib.Hide
namespace Go.Proofs.YtcfojkecmchbdaaDoor
open Go Go.RowKit
def IsRot (n : Nat) : Prop := n = 2 ∨ n = 13 ∨ n = 22 ∨ n = 6 ∨ n = 11 ∨ n = 25 ∨ n = 7 ∨ n = 18 ∨ n = 17 ∨ n = 19
theorem ret_u32 {a b : Int} (h : a = b) : Ending.returned (.int .u32 a) = .returned (.int .u32 b) := by rw [h]
theorem rotr_lt (x n : Nat) (hx : x < 4294967296) : Bul.rotr x n < 4294967296 := by
  unfold Bul.rotr
  refine Nat.or_lt_two_pow (n := 32) ?_ ?_
  · exact Nat.lt_of_le_of_lt (by rw [Nat.shiftRight_eq_div_pow]; exact Nat.div_le_self _ _) hx
  · exact Nat.mod_lt _ (by decide)
theorem rot_math (x n : Nat) (hx : x < 4294967296) (a b : Int) (ha : a = ((x * 2 ^ (32 - n) % 4294967296 : Nat) : Int)) (hb : b = ((x / 2 ^ n : Nat) : Int)) : bits .or .u32 a b = ((Bul.rotr x n : Nat) : Int) := by
  rw [ha, hb, u32_or_nat _ _ (Nat.mod_lt _ (by decide)) (Nat.lt_of_le_of_lt (Nat.div_le_self _ _) hx), Nat.or_comm, Bul.rotr, Nat.shiftRight_eq_div_pow, Nat.shiftLeft_eq]
set_option maxHeartbeats 400000 in
theorem rot_lib (x n : Nat) (w : World) (hx : x < 4294967296) (hn : IsRot n) (y : Int) (hy : y = -(n : Int)) :
    Calls Tryd.prog 70 #[.int .u32 x, .int .i64 y] w fun e w' => e = .returned (.int .u32 (Bul.rotr x n : Nat)) ∧ w = w' := by
  have h2 : bits BinOp.and .u64 (IntKind.u64.wrap (-2)) 31 = 30 := by decide
  have h13 : bits BinOp.and .u64 (IntKind.u64.wrap (-13)) 31 = 19 := by decide
  have h22 : bits BinOp.and .u64 (IntKind.u64.wrap (-22)) 31 = 10 := by decide
  have h6 : bits BinOp.and .u64 (IntKind.u64.wrap (-6)) 31 = 26 := by decide
  have h11 : bits BinOp.and .u64 (IntKind.u64.wrap (-11)) 31 = 21 := by decide
  have h25 : bits BinOp.and .u64 (IntKind.u64.wrap (-25)) 31 = 7 := by decide
  have h7 : bits BinOp.and .u64 (IntKind.u64.wrap (-7)) 31 = 25 := by decide
  have h18 : bits BinOp.and .u64 (IntKind.u64.wrap (-18)) 31 = 14 := by decide
  have h17 : bits BinOp.and .u64 (IntKind.u64.wrap (-17)) 31 = 15 := by decide
  have h19 : bits BinOp.and .u64 (IntKind.u64.wrap (-19)) 31 = 13 := by decide
  subst hy
  rcases hn with rfl | rfl | rfl | rfl | rfl | rfl | rfl | rfl | rfl | rfl
  all_goals
    go_enter Tryd.func70, Tryd.ntmps70
    go_wp2
    go_ret
    exact ⟨ret_u32 (rot_math x _ hx _ _ (by simp) (by simp)), rfl⟩
set_option maxHeartbeats 400000 in
theorem rot_any (x n : Nat) (w : World) (hx : x < 4294967296) (hn : IsRot n) (y : Int) (hy : y = (n : Int)) :
    Calls Tryd.prog 67 #[.int .u32 x, .int .i64 y] w fun e w' => e = .returned (.int .u32 (Bul.rotr x n : Nat)) ∧ w = w' := by
  have h0 : 0 ≤ y ∧ y ≤ 31 := by rcases hn with h | h | h | h | h | h | h | h | h | h <;> omega
  obtain ⟨h0, h1⟩ := h0
  have H := Lib.hid hn
  have Y := Lib.hid hy
  clear hn hy
  go_enter Tryd.func67, Tryd.ntmps67
  go_wp2_with (go_at_call 70; refine (rot_lib x n _ hx H.out _ (by rw [Y.out])).mono ?_; rintro e w' ⟨rfl, rfl⟩)
  go_ret
  exact ⟨rfl, rfl⟩
end Go.Proofs.YtcfojkecmchbdaaDoor
