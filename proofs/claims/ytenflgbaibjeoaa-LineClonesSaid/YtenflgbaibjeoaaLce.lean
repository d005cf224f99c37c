/- Contracts of Connected, of a line's description and of the reference. -/
import Derived.Test.YtenflgbaibjeoaaLcd
namespace Go.Lin
theorem connected_eq {r d p m : Int} {ws : List Win} (hc : chk r d p ws = 0) (hm : 0 ≤ m) : connected r d p ws m = conP (phase p m) ws := by
  obtain ⟨_, _, _, hv⟩ := chk_parts hc
  rw [conP_eq hv]
  simp [connected, hc, hm]
theorem con_step {m : Int} {ws : List Win} {k : Nat} (h : k < ws.length) : con m (ws.drop k) = ((decide (ws[k].1 ≤ m) && decide (m < ws[k].2)) || con m (ws.drop (k + 1))) := by
  unfold con
  rw [List.drop_eq_getElem_cons h, List.any_cons]
end Go.Lin
namespace Go.Proofs.Ytenflgbaibjeoaa
open Go Go.RowKit Go.Bul Go.Thg Go.Lin
set_option maxRecDepth 20000 in
set_option maxHeartbeats 1000000 in
theorem conn_any (r d p m : Int) (A : Option Addr) (n c : Nat) (ws : List Win) (w : World) (hm2 : m ≤ 9223372036854775807) (hn : n ≤ 1000) (hW : Wins w A n ws) :
    Calls Try.prog 24 #[cfgV r d p A n c, .int .i64 m] w fun e w' => e = .returned (.bool (connected r d p ws m)) ∧ Below w.heap.size w w' := by
  have hM := Mem.start [] w
  have HW := Lib.hid hW
  have HC := Lib.hid (fun w (h : Wins w A n ws) => check_any r d p A n c ws w hn h)
  by_cases hm : 0 ≤ m
  · have c1 : decide (0 ≤ m) = true := by simpa using hm
    by_cases hc : chk r d p ws = 0
    · have e := connected_eq hc hm
      obtain ⟨hb, _, hp, _⟩ := chk_parts hc
      have hp2 : p ≤ 10000000 := by unfold badC at hb; omega
      have HN := Lib.hid (fun w (h : Wins w A n ws) => connected_any r d p m A n c ws w hp hm hm2 (by omega) hn h)
      rw [hc] at HC
      rw [e]
      clear hW e hb hp hp2 hm hm2 hc
      generalize conP (phase p m) ws = X at HN ⊢
      cases X
      all_goals
        go_enter Try.func24, Try.ntmps24
        go_wp2_with (first | ((first | with_reducible refine at_load ?_ | ((with_reducible refine at_load_g ?_ ?_); (· rfl))); first | refine lc hM ?_ | refine ll hM ?_ | refine lp hM ?_) | ((with_reducible refine at_store ?_); first | (refine ls hM ?_; clear hM; intro wx hM) | (refine lw hM ?_; clear hM; intro wx hM) | (refine lt hM ?_; clear hM; intro wx hM)) | ((with_reducible refine at_alloc ?_); refine lz hM ?_; clear hM; intro gx wx hM) | ((with_reducible refine at_box ?_); refine lb hM ?_; clear hM; intro gx wx hM) | ((with_reducible refine (HC.out _ (HW.out.keep hM.below)).mono ?_); rintro e w1 ⟨rfl, hb1⟩; replace hM := hM.step hb1; clear hb1) | ((with_reducible refine (HN.out _ (HW.out.keep hM.below)).mono ?_); rintro e w1 ⟨rfl, hb1⟩; replace hM := hM.step hb1; clear hb1))
        go_ret
        exact ⟨rfl, hM.below⟩
    · have e : connected r d p ws m = false := by simp [connected, hc]
      rw [e]
      have c2 : (chk r d p ws == 0) = false := by simpa using hc
      clear hW e hm2 hc hm
      generalize chk r d p ws = X at HC c2
      go_enter Try.func24, Try.ntmps24
      go_wp2_with (first | ((first | with_reducible refine at_load ?_ | ((with_reducible refine at_load_g ?_ ?_); (· rfl))); first | refine lc hM ?_ | refine ll hM ?_ | refine lp hM ?_) | ((with_reducible refine at_store ?_); first | (refine ls hM ?_; clear hM; intro wx hM) | (refine lw hM ?_; clear hM; intro wx hM) | (refine lt hM ?_; clear hM; intro wx hM)) | ((with_reducible refine at_alloc ?_); refine lz hM ?_; clear hM; intro gx wx hM) | ((with_reducible refine at_box ?_); refine lb hM ?_; clear hM; intro gx wx hM) | ((with_reducible refine (HC.out _ (HW.out.keep hM.below)).mono ?_); rintro e w1 ⟨rfl, hb1⟩; replace hM := hM.step hb1; clear hb1))
      go_ret
      exact ⟨rfl, hM.below⟩
  · have c1 : decide (0 ≤ m) = false := by simpa using hm
    have e : connected r d p ws m = false := by simp [connected]; omega
    rw [e]
    clear hW e HC hm2 hm
    go_enter Try.func24, Try.ntmps24
    go_wp2_with (first | ((first | with_reducible refine at_load ?_ | ((with_reducible refine at_load_g ?_ ?_); (· rfl))); first | refine lc hM ?_ | refine ll hM ?_ | refine lp hM ?_) | ((with_reducible refine at_store ?_); first | (refine ls hM ?_; clear hM; intro wx hM) | (refine lw hM ?_; clear hM; intro wx hM) | (refine lt hM ?_; clear hM; intro wx hM)) | ((with_reducible refine at_alloc ?_); refine lz hM ?_; clear hM; intro gx wx hM) | ((with_reducible refine at_box ?_); refine lb hM ?_; clear hM; intro gx wx hM))
    go_ret
    exact ⟨rfl, hM.below⟩
end Go.Proofs.Ytenflgbaibjeoaa
