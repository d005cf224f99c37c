/- Contract of the package's Sign. -/
import Derived.Test.YtbbdnlcjjcmllaaDoorSgj
namespace Go.Proofs.YtbbdnlcjjcmllaaDoor
open Go Go.RowKit Go.Bul Go.Thg Go.Lin
set_option maxRecDepth 20000 in
set_option maxHeartbeats 4000000 in
theorem psign_yes (s : Sd) (h k : Nat) (d : Nd) (w : World) (h1 : 1 ≤ h) (hh : h ≤ 8) (hk : k < 2 ^ h) (hT : Tab w) :
    Calls Tryd.prog 8 #[.agg (secC s (h : Nat)), .int .i64 (k : Nat), .agg (ndC d)] w fun e w' => ∃ B c', e = .returned (.tuple #[.agg (sigC (k : Nat) (sgCh s k d) B h c'), .int .i64 0]) ∧ Becomes [] w (p16T (.slice B h c') (sibsF (lvsN s (2 ^ h)) k h)) w' := by
  have hM := Mem.start [] w
  have hp : 2 ^ h ≤ 2 ^ 8 := Nat.pow_le_pow_right (by decide) hh
  have hp2 : (2 : Int) ^ h = ((2 ^ h : Nat) : Int) := by simp
  have c4 : wrap64 ((2 : Int) ^ h) = (2 : Int) ^ h := by rw [hp2]; have := Int.natCast_nonneg (2 ^ h); unfold wrap64; omega
  have HS := Lib.hid (secC_size s (h : Nat))
  have HH := Lib.hid (secC_h s (h : Nat))
  have HC := Lib.hid (fun w => scheck_any s (h : Nat) w)
  rw [show hE (h : Nat) = 0 by unfold hE; rw [if_pos (by omega)]] at HC
  have HL := Lib.hid (fun w' (hb : Below w.heap.size w w') => leaves_any s h w' hh (hT.keep hb))
  have HSN := Lib.hid (fun A c w' (hr : NIn w' A (2 ^ h) (lvsN s (2 ^ h))) (hb : Below w.heap.size w w') => ssign_yes s (h : Nat) A (2 ^ h) c (lvsN s (2 ^ h)) k h d w' hr (lvsN_length _ _) (by omega) hk (hT.keep hb))
  have r1 : decide ((k : Int) < 0) = false := decide_eq_false (by omega)
  have r2 : decide ((2 : Int) ^ h ≤ (k : Int)) = false := decide_eq_false (by omega)
  have q0 : (0 : Int) ≤ (h : Int) := Int.natCast_nonneg _
  have q1 : (h : Int) ≤ 8 := by omega
  generalize sgCh s k d = ch at HSN ⊢
  generalize sibsF (lvsN s (2 ^ h)) k h = P at HSN ⊢
  generalize lvsN s (2 ^ h) = LV at HL HSN
  clear hk hp hp2 h1 hh hT
  generalize 2 ^ h = N at HL HSN
  generalize secC s (h : Nat) = X at HS HH HC HL HSN ⊢
  go_enter Tryd.func8, Tryd.ntmps8
  go_upto_region 6 with (first | ((with_reducible refine at_box ?_); first | (refine slb hM ?_ (hty := row_sec) (hn := HS.out); clear hM; intro g3 w1 hM) | (refine slb hM ?_ (hty := row_a16) (hn := ndC_size _); clear hM; intro g5 w1 hM)) | ((with_reducible refine at_alloc ?_); refine slz hM ?_ (hz := zero_sgn); clear hM; intro g6 w1 hM) | ((with_reducible refine (HC.out _).mono ?_); rintro e w1 ⟨rfl, hb⟩; replace hM := hM.step hb; clear hb) | ((first | with_reducible refine at_load ?_ | ((with_reducible refine at_load_g ?_ ?_); (· rfl))); first | refine slc hM ?_ (hv := HH.out) | refine sll hM ?_ (hty := row_sec)))
  obtain ⟨g6, hg6⟩ := hM.name1
  obtain ⟨g5, hg5⟩ := (hM.subL (List.sublist_cons_self _ _)).name1
  obtain ⟨g3, hg3⟩ := (hM.subL (List.Sublist.cons _ (List.sublist_cons_self _ _))).name1
  subst hg6 hg5 hg3
  refine wp_region_allHM hM (HeldM [⟨g5, 23, 16, ndC d⟩, ⟨g3, 28, 33, X⟩]) (by kernel_rfl) ?_
  clear hM
  intro wd hM
  have hS := HeldM.of (hM.subL (L' := [⟨g5, 23, 16, ndC d⟩, ⟨g3, 28, 33, X⟩]) (List.sublist_cons_self _ _))
  refine wpAllH_takes [3, 0, 1, 4] (by kernel_rfl) (fun _ _ _ _ _ h => h) hS (by kernel_rfl) ?_
  simp only [pickOps, List.filterMap_cons, List.filterMap_nil, List.getElem?_cons_zero, List.getElem?_cons_succ]
  repeat ((with_reducible apply wpHeld_step); (· rfl); (· (intro w hSw; first | (go_simp; rfl) | ((obtain ⟨_, _, _, hM'⟩ := hSw; first | exact yields_load (C := fun _ => True) (sql hM' (hty := row_sec)) rfl | exact yields_load (C := fun _ => True) (sql hM' (hty := row_a16)) rfl)))); intro K hK; go_simp; (with_reducible refine hK _ ?_); clear hK K)
  refine wpHeld_nil ?_
  refine wpAllH_one 2 rfl (by kernel_rfl) ?_
  go_wp2_with fail
  refine (HL.out _ hM.below).mono ?_
  rintro e w1 ⟨A, c, rfl, hb⟩
  replace hM := hM.newThing hb
  clear hb hS
  have hS := HeldM.of (hM.subL (L' := [⟨g5, 23, 16, ndC d⟩, ⟨g3, 28, 33, X⟩]) (List.sublist_cons_self _ _))
  go_wp2_with fail
  refine then_normal ⟨hS, ?_⟩
  refine wpAllH_one 5 rfl (by kernel_rfl) ?_
  go_wp2_with fail
  refine (HSN.out _ _ _ (ndT_in (hM.thing _ (List.Mem.head _))) hM.below).mono ?_
  rintro e w1 ⟨B, c', rfl, hb⟩
  replace hM := hM.newThing hb
  clear hb hS
  have hS := HeldM.of (hM.subL (L' := [⟨g5, 23, 16, ndC d⟩, ⟨g3, 28, 33, X⟩]) (List.sublist_cons_self _ _))
  go_wp2_with fail
  refine then_normal ⟨hS, ?_⟩
  refine wpAllH_takes [6, 7] (by kernel_rfl) (fun _ _ _ _ _ h => h) hS (by kernel_rfl) ?_
  simp only [pickOps, List.filterMap_cons, List.filterMap_nil, List.getElem?_cons_zero, List.getElem?_cons_succ]
  repeat ((with_reducible apply wpHeld_step); (· rfl); (· (intro w hSw; first | (go_simp; rfl) | (fail))); intro K hK; go_simp; (with_reducible refine hK _ ?_); clear hK K)
  refine wpHeld_nil ?_
  refine wpAllH_one 8 rfl (by kernel_rfl) ?_
  refine slw hM ?_ (hs := sigC_size _ _ _ _ _) (h1 := sigC_one _ _ _ _ _) (hty := row_sgn)
  clear hM hS
  intro wy hM
  have hS := HeldM.of (hM.subL (L' := [⟨g5, 23, 16, ndC d⟩, ⟨g3, 28, 33, X⟩]) (List.sublist_cons_self _ _))
  refine wpList_then ⟨hS, ?_⟩
  refine wpAllH_takes [9] (by kernel_rfl) (fun _ _ _ _ _ h => h) hS (by kernel_rfl) ?_
  simp only [pickOps, List.filterMap_cons, List.filterMap_nil, List.getElem?_cons_zero, List.getElem?_cons_succ]
  repeat ((with_reducible apply wpHeld_step); (· rfl); (· (intro w hSw; first | (go_simp; rfl) | (fail))); intro K hK; go_simp; (with_reducible refine hK _ ?_); clear hK K)
  refine wpHeld_nil ?_
  refine wpAllH_done (by kernel_rfl) ?_
  clear hS
  go_wp2_with fail
  have hb := (hM.subL (List.nil_sublist _)).becomes (List.Mem.head _)
  exact bodyPost_ret (results_mem_cell_tmp hM rfl (by rfl) (by repeat (first | exact List.Mem.head _ | apply List.Mem.tail)) row_sgn (by rfl)) rfl ⟨B, c', rfl, hb⟩
end Go.Proofs.YtbbdnlcjjcmllaaDoor
