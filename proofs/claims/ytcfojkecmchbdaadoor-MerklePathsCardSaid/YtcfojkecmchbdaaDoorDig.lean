/- Contract of sha256's words.digest: the bytes of a state. Condition: the words are below 2^32. -/
import Derived.Test.YtcfojkecmchbdaaDoorLoad
import Derived.LoopN
namespace Go.Proofs.YtcfojkecmchbdaaDoor
open Go Go.RowKit Go.Bul
theorem zero_dig : (Tryd.prog.info? 99).map (·.zero) = some (some (.agg (cellsOf .u8 (List.replicate 32 0)))) := by kernel_rfl
theorem size_dig : (Tryd.prog.info? 99).map (·.size) = some 32 := by kernel_rfl
theorem size_w8 : (Tryd.prog.info? 112).map (·.size) = some 8 := by kernel_rfl
theorem out_getD (v : Bul.St) (i : Nat) (hi : i < 8) : v.out.getD (4 * i) 0 = v.list.getD i 0 / 16777216 % 256 ∧ v.out.getD (4 * i + 1) 0 = v.list.getD i 0 / 65536 % 256 ∧ v.out.getD (4 * i + 2) 0 = v.list.getD i 0 / 256 % 256 ∧ v.out.getD (4 * i + 3) 0 = v.list.getD i 0 % 256 := by
  rw [Bul.St.out_eq]
  rcases (show i = 0 ∨ i = 1 ∨ i = 2 ∨ i = 3 ∨ i = 4 ∨ i = 5 ∨ i = 6 ∨ i = 7 by omega) with rfl | rfl | rfl | rfl | rfl | rfl | rfl | rfl <;> exact ⟨rfl, rfl, rfl, rfl⟩
def DigInv (v : Bul.St) (i : Nat) (l : List Nat) : Prop := l.length = 32 ∧ ∀ j, j < 4 * i → l.getD j 0 = v.out.getD j 0
theorem DigInv.next {v : Bul.St} {i : Nat} {l : List Nat} (h : DigInv v i l) (hi : i < 8) (x : Nat) (hx : x = v.list.getD i 0) (l' : List Nat)
    (hl : l' = (((l.set (4 * i) (x / 16777216 % 256)).set (4 * i + 1) (x / 65536 % 256)).set (4 * i + 2) (x / 256 % 256)).set (4 * i + 3) (x % 256)) : DigInv v (i + 1) l' := by
  subst hl
  have hlen := h.1
  have ho := out_getD v i hi
  rw [← hx] at ho
  refine ⟨by simp [hlen], fun j hj => ?_⟩
  rw [getD_set _ _ _ _ (by simp [hlen]; omega), getD_set _ _ _ _ (by simp [hlen]; omega), getD_set _ _ _ _ (by simp [hlen]; omega), getD_set _ _ _ _ (by omega)]
  by_cases h3 : 4 * i + 3 = j
  · rw [if_pos h3, ← h3]; exact ho.2.2.2.symm
  rw [if_neg h3]
  by_cases h2 : 4 * i + 2 = j
  · rw [if_pos h2, ← h2]; exact ho.2.2.1.symm
  rw [if_neg h2]
  by_cases h1 : 4 * i + 1 = j
  · rw [if_pos h1, ← h1]; exact ho.2.1.symm
  rw [if_neg h1]
  by_cases h0 : 4 * i = j
  · rw [if_pos h0, ← h0]; exact ho.1.symm
  rw [if_neg h0]
  exact h.2 j (by omega)
theorem DigInv.done {v : Bul.St} {l : List Nat} (h : DigInv v 8 l) : l = v.out := by
  apply List.ext_getElem (by rw [h.1, Bul.out_length])
  intro i h1 h2
  have := h.2 i (by rw [h.1] at h1; omega)
  simpa [h1, h2] using this
structure DigW (W : World) (v : Bul.St) (i : Nat) (w : World) : Prop where
  d : ∃ l, DigInv v i l ∧ Blk w (W.heap.size + 1 + 1) 99 (cellsOf .u8 l)
  r : ∃ l : List Nat, l.length = 32 ∧ Blk w (W.heap.size + 1) 99 (cellsOf .u8 l)
  old : Below W.heap.size W w
set_option maxRecDepth 20000 in
set_option maxHeartbeats 1000000 in
theorem digest_any (v : Bul.St) (w : World) (hv : v.Ok) :
    Calls Tryd.prog 66 #[stv v] w fun e w' => e = .returned (.agg (cellsOf .u8 v.out)) ∧ Below w.heap.size w w' := by
  rw [stv_eq v]
  go_enter Tryd.func66, Tryd.ntmps66
  go_wp2_with (first
    | (with_reducible refine wpList_alloc_zero rfl 99 rfl _ zero_dig ?_))
  go_loopw [24] (fun i wr => ∃ k : Nat, k ≤ 8 ∧ i = .int .i64 k ∧ DigW w v k wr) (fun i _ => 8 - (intOf i).toNat)
  case atStart =>
    refine ⟨0, by omega, rfl, ⟨_, ⟨by simp, fun j hj => by omega⟩, Blk.new' _ _ (cellsOf .u8 (List.replicate 32 0)) _ (by simp)⟩, ⟨_, by simp, (Blk.new' _ _ (cellsOf .u8 (List.replicate 32 0)) _ (by simp)).alloc _⟩, ?_⟩
    repeat' (first | with_reducible exact Below.refl _ _ | with_reducible assumption | with_reducible refine Below.setCell ?_ ?_ _ | with_reducible refine below_drewN ?_ _ | with_reducible refine Below.drew ?_ | with_reducible refine Below.alloc ?_ ?_ _)
    all_goals first | (simp; done) | (simp; omega) | omega
  case round =>
    obtain ⟨k, hk, rfl, hI⟩ := hrel
    obtain ⟨⟨l, hl, hW⟩, ⟨lr, hlr, hR⟩, hold⟩ := hI
    by_cases hlt : k < 8
    · obtain ⟨x, hx⟩ : ∃ x, x = v.list.getD k 0 := ⟨_, rfl⟩
      have ix : ∀ W, (Instr.index 112 (.agg #[.int .u32 v.a, .int .u32 v.b, .int .u32 v.c, .int .u32 v.d, .int .u32 v.e, .int .u32 v.f, .int .u32 v.g, .int .u32 v.h]) (.int .i64 (k : Nat))).run Tryd.prog W = .ok (.int .u32 (x : Nat)) W := fun W => by
        rw [hx]; exact run_index_num (l := v.list) Tryd.underlying112 Tryd.underlying80 rfl size_u32 k rfl hlt W
      have hx' : x < 4294967296 := by
        rw [hx]
        obtain ⟨h1, h2, h3, h4, h5, h6, h7, h8⟩ := hv
        rcases (show k = 0 ∨ k = 1 ∨ k = 2 ∨ k = 3 ∨ k = 4 ∨ k = 5 ∨ k = 6 ∨ k = 7 by omega) with rfl | rfl | rfl | rfl | rfl | rfl | rfl | rfl <;> assumption
      have hlen := hl.1
      have g0 : ∀ i, i < 32 → wr.cell? ⟨w.heap.size + 1 + 1, i, none⟩ = some (.int .u8 (l.getD i 0 : Nat)) := fun i hi => hW.num (by omega)
      have c0 := g0 (4 * k) (by omega)
      have c1 := g0 (4 * k + 1) (by omega)
      have c2 := g0 (4 * k + 2) (by omega)
      have c3 := g0 (4 * k + 3) (by omega)
      have f0 : wr.frozen? ⟨w.heap.size + 1 + 1, 4 * k, none⟩ = false := hW.free _
      have f1 : wr.frozen? ⟨w.heap.size + 1 + 1, 4 * k + 1, none⟩ = false := hW.free _
      have f2 : wr.frozen? ⟨w.heap.size + 1 + 1, 4 * k + 2, none⟩ = false := hW.free _
      have f3 : wr.frozen? ⟨w.heap.size + 1 + 1, 4 * k + 3, none⟩ = false := hW.free _
      have H := Lib.hid (And.intro hx hlen)
      clear hx hlen g0
      go_wp2_with fail
      refine wp_loop_rounds 5 ?_
      rw [rounds_succ]; go_wp2_with fail
      rw [rounds_succ]; go_wp2_with fail
      rw [rounds_succ]; go_wp2_with fail
      rw [rounds_succ]; go_wp2_with fail
      rw [rounds_succ]; go_wp2_with fail
      obtain ⟨hx, hlen⟩ := H.out
      have q0 : (x : Int) / (16777216 : Int) = ((x / 16777216 % 256 : Nat) : Int) := by omega
      have q1 : (x : Int) / (65536 : Int) % (256 : Int) = ((x / 65536 % 256 : Nat) : Int) := by omega
      have q2 : (x : Int) / (256 : Int) % (256 : Int) = ((x / 256 % 256 : Nat) : Int) := by omega
      have q3 : (x : Int) % (256 : Int) = ((x % 256 : Nat) : Int) := by omega
      refine ⟨⟨k + 1, by omega, by go_num, ⟨_, hl.next hlt x hx _ rfl, ?_⟩, ⟨lr, hlr, (((hR.far (by dsimp only; omega) _).far (by dsimp only; omega) _).far (by dsimp only; omega) _).far (by dsimp only; omega) _⟩,
        (((hold.setCell (by dsimp only; omega) _).setCell (by dsimp only; omega) _).setCell (by dsimp only; omega) _).setCell (by dsimp only; omega) _⟩, by simp [intOf]; omega⟩
      rw [q0, q1, q2, q3, ← cellsOf_set, ← cellsOf_set, ← cellsOf_set, ← cellsOf_set]
      exact (((hW.set _ _).set _ _).set _ _).set _ _
    · obtain rfl : k = 8 := by omega
      rw [hl.done] at hW
      go_wp2_with (first
        | (with_reducible refine wpList_load_blk rfl 99 (.tmp 3) rfl _ rfl _ _ 32 _ hW Tryd.underlying99 rfl size_dig (by simp [Bul.out_length]) ?_)
        | ((with_reducible refine wpList_store_blk rfl 99 (.tmp 2) (.tmp 44) rfl _ rfl _ rfl _ _ 32 hR size_dig (by simp [Bul.out_length]) (by simp [hlr]) (vals_one _ _) rfl ?_); intro w2 hw2))
      exact bodyPost_ret (results_cell_row rfl _ _ (w.heap.size + 1) _ _ _ _ rfl (by rw [hw2]; exact hR.row _) Tryd.underlying99 rfl (by rw [size_dig]; simp [Bul.out_length])) rfl ⟨rfl, by rw [hw2]; exact below_setRow hold (by omega) _⟩
end Go.Proofs.YtcfojkecmchbdaaDoor
