/- Contracts of slices.Grow at a nil slice of bytes, of slices.Concat at slices of bytes. -/
import Derived.Test.YtcfojkecmchbdaaDoorMab
import Derived.Lib.AppendZerosOnto
import Derived.Lib.Walk
namespace Go.Proofs.YtcfojkecmchbdaaDoor
open Go Go.RowKit Go.Bul Go.Thg Go.Lin
theorem bT_zero (A : Option Addr) (w : World) : (bT (.slice A 0 0) []).P w := OffRow.empty w _ _ A
theorem becomes_zero {G : List Nat} {w w' : World} (A : Option Addr) (h : KeptBut G w w') : Becomes G w (bT (.slice A 0 0) []) w' :=
  ⟨bT_zero A w', h, fun g hg => by rw [show (bT (.slice A 0 0) []).fp = [] from sFp_zero] at hg; cases hg⟩
set_option maxRecDepth 20000 in
theorem grow_nil (n : Nat) (w : World) (hn : n ≤ 1000000000) :
    Calls Tryd.prog 48 #[.slice none 0 0, .int .i64 (n : Nat)] w fun e w' => ∃ A c, e = .returned (.slice A 0 c) ∧ Becomes [] w (bT (.slice A 0 c) []) w' := by
  rcases Nat.eq_zero_or_pos n with h0 | h0
  · subst h0
    go_enter Tryd.func48, Tryd.ntmps48
    go_wp2_with fail
    go_ret
    exact ⟨none, 0, rfl, becomes_zero none (KeptBut.refl _ _)⟩
  · obtain ⟨i, hi', hz', hs', hb'⟩ := info_parts info_byte
    have hold : (Builtin.firstCells i.size 0 (.slice none 0 0)).run Tryd.prog w.drew = .ok ([] : List Value).toArray w.drew := run_firstCells_none w.drew i.size 0 0 0
    have h := fun ty => Lib.run_append_grow_zeros (P := Tryd.prog) w 22 3 ty 5 i (.int .u8 0) .i64 .i64 Tryd.underlying22 Tryd.underlying3 hi' hz' none 0 0 [] hold n h0 (by omega) (by omega) (by omega) (by rw [hb']; omega) (by rw [hb']; exact growslice_fits (by omega) (by omega))
    simp only [Nat.zero_add] at h
    have hge := grownCap_ge w n 0 5
    have hcm := grownCap_le_maxLen w n 0 5 (by unfold maxLen; omega)
    obtain ⟨W, hW⟩ : ∃ W, w.drew.alloc (.cells (([] : List Value).toArray ++ Builtin.zeroCells (Value.int .u8 0).cells n ++ Builtin.zeroCells (Value.int .u8 0).cells (grownCap w n 0 5 - n)) 5) = W := ⟨_, rfl⟩
    have hB : Becomes [] w (bT (.slice (some ⟨w.heap.size, 0, none⟩) 0 (grownCap w n 0 5)) []) W := by
      rw [← hW]
      refine ⟨⟨rfl, _, _, rfl, by simp, hcm, fun _ => ⟨w.heap.size, 0, _, rfl, heap_alloc_new w.drew _, ?_, fun j hj => absurd hj (by simp)⟩⟩, ⟨rfl, rfl, rfl, by simp, fun k hk _ => Below.heap_alloc w.drew _ k hk⟩, fun k hk => .inr ?_⟩
      · rw [Array.size_append, Array.size_append, size_zeroCells, size_zeroCells]
        simp [Value.cells]
        omega
      · have hk' : k ∈ sFp (.slice (some ⟨w.heap.size, 0, none⟩) 0 (grownCap w n 0 5)) := hk
        rw [sFp_pos (by omega)] at hk'
        rw [List.mem_singleton.1 hk']
        exact Nat.le_refl _
    rw [hW] at h
    obtain ⟨G, hG⟩ : ∃ G, grownCap w n 0 5 = G := ⟨_, rfl⟩
    rw [hG] at h hB hge hcm
    have hG63 : G ≤ 9223372036854775807 := by unfold maxLen at hcm; omega
    have HB := Lib.hid hB
    have wn : IntKind.i64.wrap (n : Int) = (n : Int) := IntWalk.i64_in _ ⟨by omega, by omega⟩
    have c1 : decide ((0 : Int) < (n : Int)) = true := decide_eq_true (by omega)
    have c2 : decide ((n : Int) < 0) = false := decide_eq_false (by omega)
    have c3 : decide (0 < n) = true := decide_eq_true h0
    clear hold hi' hz' hs' hb' hB hW hG hcm
    go_enter Tryd.func48, Tryd.ntmps48
    go_wp2_with (at_builtin; refine Lib.wpList_append_run _ rfl _ _ _ _ rfl _ _ rfl rfl _ _ (h _) ?_)
    go_ret
    exact ⟨_, _, rfl, HB.out⟩
end Go.Proofs.YtcfojkecmchbdaaDoor
