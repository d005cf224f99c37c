/- The laws' helper cut. -/
import Derived.Test.YtenflgbaibjeoaaLnx
namespace Go.Proofs.Ytenflgbaibjeoaa
open Go Go.RowKit Go.Bul Go.Thg Go.Lin
theorem size_W : (Try.prog.info? 92).map (·.size) = some 2 := by kernel_rfl
theorem winCells_take : ∀ (k : Nat) (ws : List Win), (winCells ws).take (k * 2) = winCells (ws.take k)
  | 0, _ => by simp [winCells]
  | k + 1, [] => by simp [winCells]
  | k + 1, w :: ws => by
    have := winCells_take k ws
    show (Value.int .i64 w.1 :: .int .i64 w.2 :: winCells ws).take ((k + 1) * 2) = .int .i64 w.1 :: .int .i64 w.2 :: winCells (ws.take k)
    rw [show (k + 1) * 2 = k * 2 + 1 + 1 by omega, List.take_succ_cons, List.take_succ_cons, this]
theorem Wins.take {w : World} {A : Option Addr} {n : Nat} {ws : List Win} (h : Wins w A n ws) (k : Nat) (hk : k ≤ n) : Wins w A k (ws.take k) := by
  have := Reads.take h k hk
  rwa [winCells_take] at this
theorem wins_src {w : World} {A : Option Addr} {n c : Nat} {ws : List Win} (h : Wins w A n ws) : Src Try.prog 2 40 (.slice A n c) (ws.length) (winCells ws) w := by
  have e := h.len
  subst e
  exact Reads.src h Try.underlying40 (winCells_one _)
set_option maxRecDepth 20000 in
theorem cut_any (r d p : Int) (A : Option Addr) (n c : Nat) (ws : List Win) (w : World) (hW : Wins w A n ws) (hnc : n ≤ c) (hA : advA A 0 c 2 = A) :
    Calls Try.prog 20 #[cfgV r d p A n c] w fun e w' => ∃ A' N c', N = (ws.take 40).length ∧ e = .returned (cfgV r d p A' N c') ∧ Becomes [] w (wT (.slice A' N c') (ws.take 40)) w' := by
  have hM := Mem.start [] w
  obtain ⟨k, hk⟩ : ∃ k : Nat, (if (40 : Int) < (n : Int) then (40 : Int) else (n : Int)) = k := by
    by_cases h : (40 : Int) < (n : Int)
    · exact ⟨40, by rw [if_pos h]; rfl⟩
    · exact ⟨n, by rw [if_neg h]⟩
  have hk2 : (k = 40 ∧ 40 < n) ∨ (k = n ∧ n ≤ 40) := by split at hk <;> omega
  have hkc : k ≤ c := by omega
  have hkn : k ≤ n := by omega
  have HW := Lib.hid (hW.take k hkn)
  have e : ws.take k = ws.take 40 := by
    have := hW.len
    rcases hk2 with ⟨h, _⟩ | ⟨h, h2⟩
    · rw [h]
    · rw [List.take_of_length_le (by omega), List.take_of_length_le (by omega)]
  rw [e] at HW
  have HL := Lib.hid (show ([] : List Win).length + (ws.take 40).length ≤ 1000000000 by simp; omega)
  have HK := Lib.hid hk
  have HA := Lib.hid hA
  generalize ws.take 40 = us at HW HL ⊢
  clear e hW hkn hk hk2 hA hnc
  go_enter Try.func20, Try.ntmps20
  go_wp2_with (first | (refine lbn hM ?_; clear hM; intro gw ww hM) | ((with_reducible refine at_slice ?_); refine lsl_hi Try.underlying40 size_W hkc HA.out ?_ (hy := by exact congrArg (Value.int .i64) HK.out)) | ((with_reducible refine at_append ?_); refine laW (wins_src (HW.out.keep hM.below)) hM HL.out ?_; clear hM; intro A' N c' wx hN hM) | ((with_reducible refine at_store ?_); refine ls hM ?_ (v := .slice A' N c'); clear hM; intro wx hM) | ((first | with_reducible refine at_load ?_ | ((with_reducible refine at_load_g ?_ ?_); (· rfl))); first | refine lc hM ?_ | refine ll hM ?_ | refine lp hM ?_) | ((with_reducible refine at_store ?_); first | (refine ls hM ?_; clear hM; intro wx hM) | (refine lw hM ?_; clear hM; intro wx hM) | (refine lt hM ?_; clear hM; intro wx hM)) | ((with_reducible refine at_alloc ?_); refine lz hM ?_; clear hM; intro gx wx hM) | ((with_reducible refine at_box ?_); refine lb hM ?_; clear hM; intro gx wx hM))
  all_goals obtain rfl : N = us.length := by rw [hN.out]; rfl
  all_goals exact bodyPost_ret (results_mem_cell hM rfl (by rfl) (by repeat (first | exact List.Mem.head _ | apply List.Mem.tail)) (by first | exact row_cfg | exact row_win | exact row_line | exact row_end | exact row_ends | exact row_pkt | exact row_C | exact row_W | exact row_L | exact row_End | exact row_Ends | exact row_B | exact row_op | exact row_str2 | exact row_b3)) rfl ⟨A', c', rfl, hM.becomes (by exact List.Mem.head _)⟩
end Go.Proofs.Ytenflgbaibjeoaa
