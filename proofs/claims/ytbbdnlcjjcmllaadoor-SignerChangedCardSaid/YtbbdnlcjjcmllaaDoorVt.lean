/- Contract of same; MerkleRoot: the walk. Contracts of From, Verify for any path; every leaf is verified by its path. -/
import Derived.Test.YtbbdnlcjjcmllaaDoorVs
namespace Go.Proofs.YtbbdnlcjjcmllaaDoor
open Go Go.RowKit Go.Bul Go.Thg Go.Lin
end Go.Proofs.YtbbdnlcjjcmllaaDoor
namespace Go.Lin
open Go
def fromF (x : Nd) (idx : Int) (path : List Nd) : Nd × Int :=
  if 10 < path.length then (nd0, 9) else if idx < 0 ∨ (2 : Int) ^ path.length ≤ idx then (nd0, 8) else (climbs idx 0 x path, 0)
theorem bitAt_nat (i k : Nat) : bitAt (i : Int) (k : Int) = decide (i / 2 ^ k % 2 = 1) := by
  unfold bitAt
  rw [Int.toNat_natCast]
  have : (i : Int) / 2 ^ k = ((i / 2 ^ k : Nat) : Int) := by simp
  rw [this]
  by_cases h : i / 2 ^ k % 2 = 1
  · rw [decide_eq_true h, decide_eq_true (by omega)]
  · rw [decide_eq_false h, decide_eq_false (by omega)]
theorem step_sib (leaves : List Nd) (i k : Nat) : stepN (i : Int) (k : Int) (nodeN leaves k (i / 2 ^ k)) (nodeN leaves k (sib (i / 2 ^ k))) = nodeN leaves (k + 1) (i / 2 ^ (k + 1)) := by
  unfold stepN pairN
  rw [bitAt_nat, Nat.pow_succ, ← Nat.div_div_eq_div_mul]
  generalize i / 2 ^ k = q
  have e : nodeN leaves (k + 1) (q / 2) = joinN ((k + 1 : Nat) : Int) (nodeN leaves k (2 * (q / 2))) (nodeN leaves k (2 * (q / 2) + 1)) := rfl
  rw [e, show ((k + 1 : Nat) : Int) = (k : Int) + 1 by omega]
  unfold sib
  by_cases h : q % 2 = 0
  · rw [if_pos h, decide_eq_false (by omega), show 2 * (q / 2) = q by omega]
    rfl
  · rw [if_neg h, decide_eq_true (by omega), show 2 * (q / 2) = q - 1 by omega, show q - 1 + 1 = q by omega]
    rfl
theorem climbs_sibs (leaves : List Nd) (i : Nat) : ∀ m k : Nat, climbs (i : Int) k (nodeN leaves k (i / 2 ^ k)) (((List.range' k m).map fun k => nodeN leaves k (sib (i / 2 ^ k)))) = nodeN leaves (k + m) (i / 2 ^ (k + m))
  | 0, k => rfl
  | m + 1, k => by
    rw [List.range'_succ, List.map_cons]
    show climbs (i : Int) (k + 1) (stepN (i : Int) (k : Int) _ _) _ = _
    rw [step_sib, climbs_sibs leaves i m (k + 1)]
    rw [show k + 1 + m = k + (m + 1) by omega]
theorem path_leads (leaves : List Nd) (h i : Nat) (hn : leaves.length = 2 ^ h) (hh : h ≤ 10) (hi : i < 2 ^ h) : fromF (nodeN leaves 0 i) (i : Int) (sibsF leaves i h) = (rootH leaves h, 0) := by
  unfold fromF
  have h2 : (2 : Int) ^ h = ((2 ^ h : Nat) : Int) := by simp
  rw [sibsF_length, if_neg (by omega), if_neg (by rw [h2]; omega)]
  have e := climbs_sibs leaves i h 0
  simp only [Nat.pow_zero, Nat.div_one, Nat.zero_add] at e
  rw [show i / 2 ^ h = 0 from Nat.div_eq_of_lt hi, rootH_node leaves h hn] at e
  unfold sibsF
  rw [List.range_eq_range', e]
theorem leaf_get (leaves : List Nd) (i : Nat) (hi : i < leaves.length) : leaves[i] = nodeN leaves 0 i := by
  simp [nodeN, List.getD_eq_getElem?_getD, hi]
end Go.Lin
namespace Go.Proofs.YtbbdnlcjjcmllaaDoor
open Go Go.RowKit Go.Bul Go.Thg Go.Lin
set_option maxRecDepth 20000 in
set_option maxHeartbeats 4000000 in
theorem from_any (x : Nd) (idx : Int) (A : Option Addr) (n c : Nat) (path : List Nd) (w : World) (hr : NIn w A n path) (hn : n ≤ 1000000) (hT : Tab w) :
    Calls Tryd.prog 50 #[.agg (ndC x), .int .i64 idx, .slice A n c] w fun e w' => e = .returned (.tuple #[.agg (ndC (fromF x idx path).1), .int .i64 (fromF x idx path).2]) ∧ Below w.heap.size w w' := by
  have hl := hr.len
  unfold fromF
  rw [← hl]
  by_cases h10 : 10 < n
  · rw [if_pos h10]
    have hM := Mem.start [] w
    have c1 : decide ((10 : Int) < (n : Int)) = true := decide_eq_true (by omega)
    have c2 : decide (10 < n) = true := decide_eq_true h10
    clear hr hl hT h10 hn
    go_enter Tryd.func50, Tryd.ntmps50
    go_wp2_with (first | ((with_reducible refine at_build ?_); refine wpList_build_zero rfl _ (by rfl) _ _ zero_nd arr_nd ?_) | ((first | with_reducible refine at_load ?_ | ((with_reducible refine at_load_g ?_ ?_); (· rfl))); first | refine ll hM ?_ | refine lc hM ?_ | refine lp hM ?_) | ((with_reducible refine at_store ?_); first | (refine lw hM ?_; clear hM; intro wx hM) | (refine ls hM ?_; clear hM; intro wx hM) | (refine lt hM ?_; clear hM; intro wx hM)) | ((with_reducible refine at_alloc ?_); refine lz hM ?_; clear hM; intro gx wx hM) | ((with_reducible refine at_box ?_); refine lb hM ?_; clear hM; intro gx wx hM))
    exact bodyPost_ret (results_mem_cell_tmp hM rfl (by rfl) (by repeat (first | exact List.Mem.head _ | apply List.Mem.tail)) (by first | exact row_nd | exact row_n | exact row_half | exact row_a32 | exact row_nd2 | exact row_n2 | exact row_two | exact row_claim | exact row_bld | exact row_bnds) (by rfl)) rfl ⟨rfl, hM.below⟩
  · rw [if_neg h10]
    have c1 : decide ((10 : Int) < (n : Int)) = false := decide_eq_false (by omega)
    have c2 : decide (10 < n) = false := decide_eq_false (by omega)
    by_cases h0 : idx < 0
    · rw [if_pos (.inl h0)]
      have hM := Mem.start [] w
      have c3 : decide (idx < 0) = true := decide_eq_true (by omega)
      clear hr hl hT h10 hn h0
      go_enter Tryd.func50, Tryd.ntmps50
      go_wp2_with (first | ((with_reducible refine at_build ?_); refine wpList_build_zero rfl _ (by rfl) _ _ zero_nd arr_nd ?_) | ((first | with_reducible refine at_load ?_ | ((with_reducible refine at_load_g ?_ ?_); (· rfl))); first | refine ll hM ?_ | refine lc hM ?_ | refine lp hM ?_) | ((with_reducible refine at_store ?_); first | (refine lw hM ?_; clear hM; intro wx hM) | (refine ls hM ?_; clear hM; intro wx hM) | (refine lt hM ?_; clear hM; intro wx hM)) | ((with_reducible refine at_alloc ?_); refine lz hM ?_; clear hM; intro gx wx hM) | ((with_reducible refine at_box ?_); refine lb hM ?_; clear hM; intro gx wx hM))
      exact bodyPost_ret (results_mem_cell_tmp hM rfl (by rfl) (by repeat (first | exact List.Mem.head _ | apply List.Mem.tail)) (by first | exact row_nd | exact row_n | exact row_half | exact row_a32 | exact row_nd2 | exact row_n2 | exact row_two | exact row_claim | exact row_bld | exact row_bnds) (by rfl)) rfl ⟨rfl, hM.below⟩
    · by_cases h1 : (2 : Int) ^ n ≤ idx
      · rw [if_pos (.inr h1)]
        have hM := Mem.start [] w
        have c3 : decide (idx < 0) = false := decide_eq_false (by omega)
        have n0 : (0 : Int) ≤ (n : Int) := Int.natCast_nonneg _
        have n1 : (n : Int) ≤ 10 := by omega
        have hp : (2 : Int) ^ n ≤ 1024 := by
          have h : (2 : Int) ^ n = ((2 ^ n : Nat) : Int) := by simp
          have h2 : 2 ^ n ≤ 2 ^ 10 := Nat.pow_le_pow_right (by decide) (by omega)
          omega
        have hp0 : (0 : Int) ≤ 2 ^ n := by
          have h : (2 : Int) ^ n = ((2 ^ n : Nat) : Int) := by simp
          rw [h]
          exact Int.natCast_nonneg _
        have c4 : wrap64 ((2 : Int) ^ n) = (2 : Int) ^ n := by unfold wrap64; omega
        have c5 : decide ((2 : Int) ^ n ≤ idx) = true := decide_eq_true h1
        clear hr hl hT h10 hn h0 h1 hp hp0
        go_enter Tryd.func50, Tryd.ntmps50
        go_wp2_with (first | ((with_reducible refine at_build ?_); refine wpList_build_zero rfl _ (by rfl) _ _ zero_nd arr_nd ?_) | ((first | with_reducible refine at_load ?_ | ((with_reducible refine at_load_g ?_ ?_); (· rfl))); first | refine ll hM ?_ | refine lc hM ?_ | refine lp hM ?_) | ((with_reducible refine at_store ?_); first | (refine lw hM ?_; clear hM; intro wx hM) | (refine ls hM ?_; clear hM; intro wx hM) | (refine lt hM ?_; clear hM; intro wx hM)) | ((with_reducible refine at_alloc ?_); refine lz hM ?_; clear hM; intro gx wx hM) | ((with_reducible refine at_box ?_); refine lb hM ?_; clear hM; intro gx wx hM))
        exact bodyPost_ret (results_mem_cell_tmp hM rfl (by rfl) (by repeat (first | exact List.Mem.head _ | apply List.Mem.tail)) (by first | exact row_nd | exact row_n | exact row_half | exact row_a32 | exact row_nd2 | exact row_n2 | exact row_two | exact row_claim | exact row_bld | exact row_bnds) (by rfl)) rfl ⟨rfl, hM.below⟩
      · rw [if_neg (by omega)]
        exact from_yes x idx A n c path w hr (by omega) (by omega) (by omega) hT
end Go.Proofs.YtbbdnlcjjcmllaaDoor
