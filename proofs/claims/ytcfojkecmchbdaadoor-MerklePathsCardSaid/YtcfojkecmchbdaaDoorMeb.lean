/- Contracts of Paths and of what it returns. -/
import Derived.Test.YtcfojkecmchbdaaDoorMea
import Derived.Test.YtcfojkecmchbdaaDoorMng
import Derived.Shelf.Abstract
import Derived.Shelf.RegionOpen
import Derived.OwnWalkIn
import Derived.TacticsInMore
import Derived.LoopNIn
import Derived.LoopIn
namespace Go.Proofs.YtcfojkecmchbdaaDoor
open Go Go.RowKit Go.Bul Go.Thg Go.Lin
theorem zero_ssN : ZeroTy Tryd.prog 87 1 #[.slice none 0 0] := ⟨⟨.slice none 0 0, by kernel_rfl, rfl, rfl⟩⟩
set_option maxRecDepth 20000 in
set_option maxHeartbeats 4000000 in
theorem paths_no (A : Option Addr) (n c : Nat) (w : World) (hn : n ≤ 2000) (hc : chkE n ≠ 0) :
    Calls Tryd.prog 27 #[.slice A n c] w fun e w' => e = .returned (.func (.func 43) #[] #[]) ∧ Below w.heap.size w w' := by
  have hM := Mem.start [] w
  have HC := Lib.hid (fun w => check_any A n c w (by omega))
  have q1 : (chkE n != 0) = true := by simpa using hc
  generalize chkE n = ce at q1 HC
  clear hc hn
  go_enter Tryd.func27, Tryd.ntmps27
  go_wp2_with (first | ((with_reducible refine (HC.out _).mono ?_); rintro e w1 ⟨rfl, rfl⟩) | ((first | with_reducible refine at_load ?_ | ((with_reducible refine at_load_g ?_ ?_); (· rfl))); first | refine ll hM ?_ | refine lc hM ?_ | refine lp hM ?_) | ((with_reducible refine at_store ?_); first | (refine lw hM ?_; clear hM; intro wx hM) | (refine ls hM ?_; clear hM; intro wx hM) | (refine lt hM ?_; clear hM; intro wx hM)) | ((with_reducible refine at_alloc ?_); refine lz hM ?_; clear hM; intro gx wx hM) | ((with_reducible refine at_box ?_); refine lb hM ?_; clear hM; intro gx wx hM))
  go_ret
  exact ⟨rfl, hM.below⟩
set_option maxRecDepth 20000 in
set_option maxHeartbeats 4000000 in
theorem paths_yes (A : Option Addr) (n c h : Nat) (leaves : List Nd) (w : World) (hr : NIn w A n leaves) (hn : leaves.length = 2 ^ h) (hh : h ≤ 10) (hT : Tab w) :
    Calls Tryd.prog 27 #[.slice A n c] w fun e w' => ∃ Bs B d vs C e', e = .returned (.func (.func 44) #[] #[.pointer (some ⟨Bs, 0, none⟩)]) ∧ vs.length = h ∧
      Mem [] w [⟨Bs, 87, 1, #[.slice B (h + 1) d]⟩] (slT (.slice B (h + 1) d) (vs ++ [.slice C 1 e']) :: ndT (.slice C 1 e') (lvl leaves h) :: ndRows vs (lvls leaves h)) w' := by
  have hM := Mem.start [] w
  have hl := hr.len
  have hp : 2 ^ h ≤ 2 ^ 10 := Nat.pow_le_pow_right (by decide) hh
  have HC := Lib.hid (fun w => check_any A n c w (by omega))
  have hc : chkE n = 0 := (chkE_pow hh (by omega)).1
  have HG := Lib.hid (fun w' (hb : Below w.heap.size w w') => grow_any A n c h leaves w' (hr.keep hb) hn hh (hT.keep hb))
  rw [hc] at HC
  clear hr hn hh hT hl hp hc
  go_enter Tryd.func27, Tryd.ntmps27
  go_wp2_with (first | ((with_reducible refine (HC.out _).mono ?_); rintro e w1 ⟨rfl, rfl⟩) | ((with_reducible refine (HG.out _ hM.below).mono ?_); rintro e w1 ⟨B, d, vs, C, e', rfl, hvl, hG⟩; have HVL := Lib.hid hvl; replace hM := hM.frame hG; clear hG hvl) | ((with_reducible refine at_alloc ?_); refine lz hM ?_ (hz := zero_ssN); clear hM; intro g3 wz hM) | ((first | with_reducible refine at_load ?_ | ((with_reducible refine at_load_g ?_ ?_); (· rfl))); first | refine ll hM ?_ | refine lc hM ?_ | refine lp hM ?_) | ((with_reducible refine at_store ?_); first | (refine lw hM ?_; clear hM; intro wx hM) | (refine ls hM ?_; clear hM; intro wx hM) | (refine lt hM ?_; clear hM; intro wx hM)) | ((with_reducible refine at_alloc ?_); refine lz hM ?_; clear hM; intro gx wx hM) | ((with_reducible refine at_box ?_); refine lb hM ?_; clear hM; intro gx wx hM))
  go_ret
  refine ⟨_, rfl, B, d, vs, HVL.out, C, e', ?_⟩
  have h2 := hM.subR (R' := slT (.slice B (h + 1) d) (vs ++ [.slice C 1 e']) :: ndT (.slice C 1 e') (lvl leaves h) :: ndRows vs (lvls leaves h)) (by simp)
  exact h2
attribute [local go_sem] Oper.semAt_some
set_option maxRecDepth 100000 in
set_option maxHeartbeats 4000000 in
theorem paths1_in (n l : Nat) (W : World) : CallsIn Fence.wide n Tryd.prog 43 #[.func (.yield l) #[] #[]] W fun e W' => (∃ v, e = .returned v) ∧ W' = W := by
  refine callsIn_of_wp Tryd.func43 rfl trivial ?_ rfl
  simp only [Tryd.ntmps43, List.size_toArray, List.length_cons, List.length_nil, Nat.reduceAdd, Nat.reduceSub, Array.replicate_succ, Array.replicate_zero, List.push_toArray, List.append_toArray, List.nil_append, List.cons_append]
  gi_wp2
  go_end0
  exact ⟨⟨_, rfl⟩, rfl⟩
set_option maxRecDepth 100000 in
set_option maxHeartbeats 4000000 in
theorem paths2_in (n : Nat) (hn : 1 ≤ n) (l Bs d h : Nat) (B : Option Addr) (leaves : List Nd) (hlen : leaves.length = 2 ^ h) (hh : h ≤ 10) (J Jx : Nat → World → Prop)
    (hJT : ∀ k W, J k W → W.cell? ⟨Bs, 0, none⟩ = some (.slice B (h + 1) d) ∧ TreeIn W B d h leaves) (hJb : ∀ k W W', J k W → Below W.heap.size W W' → J k W')
    (hY : ∀ (k : Nat) A c W, J k W → k < leaves.length → NIn W A h (sibsF leaves k h) → YieldAt Fence.wide (n - 1) Tryd.prog l #[.int .i64 (k : Nat), .slice A h c] W fun e W' =>
      (e = .returned (.bool true) ∧ J (k + 1) W') ∨ (e = .returned (.bool false) ∧ Jx (k + 1) W'))
    (W : World) (h0 : J 0 W) :
    CallsIn Fence.wide n Tryd.prog 44 #[.func (.yield l) #[] #[], .pointer (some ⟨Bs, 0, none⟩)] W fun e W' => (∃ v, e = .returned v) ∧ (J leaves.length W' ∨ ∃ k, Jx k W') := by
  have hp : 2 ^ h ≤ 2 ^ 10 := Nat.pow_le_pow_right (by decide) hh
  have hp0 : 0 < 2 ^ h := Nat.pow_pos (by decide)
  obtain ⟨hc0, hcd, gt, ot, rfl, hgt, hT⟩ := hJT 0 W h0
  obtain ⟨C, e0, hc1, _⟩ := hT 0 (by omega)
  obtain ⟨nl, hnl⟩ : ∃ n, (lvl leaves 0).length = n := ⟨_, rfl⟩
  have hnl2 : leaves.length = nl := hnl
  rw [hnl] at hc1
  rw [Nat.add_zero] at hc1
  rw [hnl2]
  rw [hnl2] at hY
  refine callsIn_of_wp Tryd.func44 rfl trivial ?_ rfl
  simp only [Tryd.ntmps44, List.size_toArray, List.length_cons, List.length_nil, Nat.reduceAdd, Nat.reduceSub, Array.replicate_succ, Array.replicate_zero, List.push_toArray, List.append_toArray, List.nil_append, List.cons_append]
  gi_wp2
  gi_loopw [8] (fun i wr => ∃ k : Nat, k ≤ nl ∧ i = .int .i64 (k : Nat) ∧ J k wr) (fun i _ => nl - (intOf i).toNat)
  case atStart => exact ⟨0, Nat.zero_le _, rfl, h0⟩
  case round =>
    obtain ⟨k, hk, rfl, hJ⟩ := hrel
    by_cases hlt : k < nl
    · obtain ⟨hb0, hTI⟩ := hJT k wr hJ
      have hS := siblings_any _ d h leaves k wr hTI hlen hh (by omega)
      have hlt' : (k : Int) < (nl : Int) := by omega
      gi_wp2_with (refine ⟨trivial, ?_⟩; gi_at_call 41; refine (callsIn_wide.2 hS).mono ?_; rintro e W1 ⟨A', c', rfl, hbc⟩; obtain ⟨fn, tmps, assign, body, hy, hR⟩ := hY k A' c' W1 (hJb k wr W1 hJ hbc.kept.below) hlt (ndT_in hbc.holds))
      refine hR.mono ?_
      rintro e W3 (⟨rfl, hJ3⟩ | ⟨rfl, hJ3⟩)
      · gi_wp2
        go_roundw
        case rel => exact ⟨k + 1, by omega, by simp, hJ3⟩
        case measure => simp [intOf]; omega
      · gi_wp2
        refine bodyPost_ret (results_none rfl _ _ _) rfl ?_
        exact ⟨⟨_, rfl⟩, .inr ⟨_, hJ3⟩⟩
    · obtain rfl : k = nl := by omega
      gi_wp2
      go_end0
      exact ⟨⟨_, rfl⟩, .inl hJ⟩
end Go.Proofs.YtcfojkecmchbdaaDoor
