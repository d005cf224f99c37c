/- The line goes down. -/
import Derived.Test.YtenflgbaibjeoaaLni
import Derived.Test.YtenflgbaibjeoaaMnc
namespace Go.Proofs.Ytenflgbaibjeoaa
open Go Go.RowKit Go.Bul Go.Thg Go.Lin
section
variable {G : List Nat} {w0 w : World} {L : List Ent} {R : List Thing} {p : Nat} {S : Ln}
theorem becomes_way {w' : World} (A : Option Addr) (h : KeptBut G w w') : Becomes G w (wayT [] (.slice A 0 0) []) w' := ⟨way_nil A w', h, fun g hg => by cases hg⟩
set_option maxRecDepth 100000 in
set_option maxHeartbeats 4000000 in
theorem down_any (h : HasLine G w0 L R p S w) : Calls Try.prog 46 #[.pointer (some ⟨p, 0, none⟩)] w fun e w' => e = .returned (.tuple #[]) ∧ HasLine G w0 L R p (downS S) w' := by
  obtain ⟨x, hM⟩ := h.open
  clear h
  obtain ⟨r, d, q, ws, now, up, ses, E0, E1⟩ := S
  go_enter Try.func46, Try.ntmps46
  go_wp2_with (first | (refine ls hM ?_ (hX := by exact set_13_5); clear hM; intro wq hM))
  refine wp_loop_rounds 3 ?_
  rw [rounds_succ]
  go_wp2_with fail
  have hM := hM.drew
  refine wp_region_all (by kernel_rfl) ?_
  refine wpAll_takes [0, 1, 2, 3, 4, 5, 6, 7, 9, 10] (by kernel_rfl) (fun _ _ _ _ _ h => h) (by kernel_rfl) ?_
  simp only [pickOps, List.filterMap_cons, List.filterMap_nil, List.getElem?_cons_zero, List.getElem?_cons_succ]
  repeat ((with_reducible apply wpPure_step); (· rfl); (· (intro w; go_simp; rfl)); intro K hK; go_simp; (with_reducible refine hK _ ?_); clear hK K)
  refine wpPure_nil ?_
  refine wpAll_one 8 rfl (by kernel_rfl) ?_
  refine ls hM ?_ (hX := by exact set_13_7)
  clear hM
  intro wq hM
  refine wpList_then ?_
  go_simp
  refine wpAll_takes [11, 12] (by kernel_rfl) (fun _ _ _ _ _ h => h) (by kernel_rfl) ?_
  simp only [pickOps, List.filterMap_cons, List.filterMap_nil, List.getElem?_cons_zero, List.getElem?_cons_succ]
  repeat ((with_reducible apply wpPure_step); (· rfl); (· (intro w; go_simp; rfl)); intro K hK; go_simp; (with_reducible refine hK _ ?_); clear hK K)
  refine wpPure_nil ?_
  refine wpAll_one 13 rfl (by kernel_rfl) ?_
  refine ls hM ?_ (hX := by exact set_13_8)
  clear hM
  intro wq hM
  refine wpList_then ?_
  refine wpAll_done (by kernel_rfl) ?_
  go_wp2_with fail
  rw [rounds_succ]
  go_wp2_with fail
  have hM := hM.drew
  refine wp_region_all (by kernel_rfl) ?_
  refine wpAll_takes [0, 1, 2, 3, 4, 5, 6, 7, 9, 10] (by kernel_rfl) (fun _ _ _ _ _ h => h) (by kernel_rfl) ?_
  simp only [pickOps, List.filterMap_cons, List.filterMap_nil, List.getElem?_cons_zero, List.getElem?_cons_succ]
  repeat ((with_reducible apply wpPure_step); (· rfl); (· (intro w; go_simp; rfl)); intro K hK; go_simp; (with_reducible refine hK _ ?_); clear hK K)
  refine wpPure_nil ?_
  refine wpAll_one 8 rfl (by kernel_rfl) ?_
  refine ls hM ?_ (hX := by exact set_13_10)
  clear hM
  intro wq hM
  refine wpList_then ?_
  go_simp
  refine wpAll_takes [11, 12] (by kernel_rfl) (fun _ _ _ _ _ h => h) (by kernel_rfl) ?_
  simp only [pickOps, List.filterMap_cons, List.filterMap_nil, List.getElem?_cons_zero, List.getElem?_cons_succ]
  repeat ((with_reducible apply wpPure_step); (· rfl); (· (intro w; go_simp; rfl)); intro K hK; go_simp; (with_reducible refine hK _ ?_); clear hK K)
  refine wpPure_nil ?_
  refine wpAll_one 13 rfl (by kernel_rfl) ?_
  refine ls hM ?_ (hX := by exact set_13_11)
  clear hM
  intro wq hM
  refine wpList_then ?_
  refine wpAll_done (by kernel_rfl) ?_
  go_wp2_with fail
  rw [rounds_succ]
  go_wp2_with fail
  (try simp only [Exit.inBlock, Exit.then]); refine bodyPost_end (results_none rfl _ _ _) rfl ?_
  have hM := hM.turn (UpdR.tail _ (UpdR.head _ _)) (becomes_zero none (KeptBut.refl _ _))
  have hM := hM.turn (UpdR.tail _ (UpdR.tail _ (UpdR.head _ _))) (becomes_way none (KeptBut.refl _ _))
  have hM := hM.turn (UpdR.tail _ (UpdR.tail _ (UpdR.tail _ (UpdR.tail _ (UpdR.head _ _))))) (becomes_zero none (KeptBut.refl _ _))
  have hM := hM.turn (UpdR.tail _ (UpdR.tail _ (UpdR.tail _ (UpdR.tail _ (UpdR.tail _ (UpdR.head _ _)))))) (becomes_way none (KeptBut.refl _ _))
  exact ⟨rfl, HasLine.close (x := ⟨x.cv, ⟨none, 0⟩, ⟨none, 0⟩, x.a0, ⟨none, 0⟩, ⟨none, 0⟩, x.a1, [], []⟩) hM⟩
end
end Go.Proofs.Ytenflgbaibjeoaa
