/- The laws' helper config. -/
import Derived.Test.YtenflgbaibjeoaaMne
import Derived.Test.YtenflgbaibjeoaaRgm
namespace Go.Proofs.Ytenflgbaibjeoaa
open Go Go.RowKit Go.Bul Go.Thg Go.Lin
theorem win_src {w : World} {A : Option Addr} {n c : Nat} {ws : List Win} (h : Wins w A n ws) : Src Try.prog 2 25 (.slice A n c) (ws.length) (winCells ws) w := by
  have e := h.len
  subst e
  exact Reads.src h Try.underlying25 (winCells_one _)
set_option maxRecDepth 20000 in
set_option maxHeartbeats 4000000 in
theorem config_any (r d p : Int) (A : Option Addr) (n c : Nat) (ws : List Win) (w : World) (hW : Wins w A n ws) (hn : n ≤ 40) :
    Calls Try.prog 21 #[cfgV r d p A n c] w fun e w' => ∃ A' N c', N = ws.length ∧ e = .returned (cfgV r d p A' N c') ∧ Becomes [] w (winT (.slice A' N c') ws) w' := by
  have hM := Mem.start [] w
  have HW := Lib.hid hW
  have HL := Lib.hid hW.len
  have HN := Lib.hid hn
  clear hW hn
  go_enter Try.func21, Try.ntmps21
  go_wp2_with (first | ((with_reducible refine at_box ?_); refine lb hM ?_; clear hM; intro g0 wx hM) | ((first | with_reducible refine at_load ?_ | ((with_reducible refine at_load_g ?_ ?_); (· rfl))); first | refine lc hM ?_ | refine ll hM ?_ | refine lp hM ?_) | ((with_reducible refine at_store ?_); first | (refine ls hM ?_; clear hM; intro wx hM) | (refine lw hM ?_; clear hM; intro wx hM) | (refine lt hM ?_; clear hM; intro wx hM)) | ((with_reducible refine at_alloc ?_); refine lz hM ?_; clear hM; intro gx wx hM) | ((with_reducible refine at_box ?_); refine lb hM ?_; clear hM; intro gx wx hM))
  obtain ⟨g2, hg2⟩ := hM.name1
  obtain ⟨g1, hg1⟩ := hM.subL (List.sublist_cons_self _ _) |>.name1
  subst hg2 hg1
  have M0 := Lib.hid (hM.newThing (wbecomes_zero none (KeptBut.refl _ _)))
  clear hM
  go_loopw [4] (fun i wr => ∃ (k c' : Nat) (A' : Option Addr), k ≤ n ∧ i = .int .i64 (k : Nat) ∧ Mem [] w [⟨g2, 27, 4, cfgCs r d p A' k c'⟩, ⟨g1, 27, 4, cfgCs 0 0 0 none 0 0⟩, ⟨g0, 42, 4, cfgCs r d p A n c⟩] [winT (.slice A' k c') (ws.take k)] wr) (fun i _ => n - (intOf i).toNat)
  case atStart => exact ⟨0, 0, none, by omega, rfl, by rw [List.take_zero]; exact M0.out⟩
  case round =>
    obtain ⟨k, c', A', hk, rfl, hM⟩ := hrel
    by_cases hlt : k < n
    · have hkl : k < ws.length := by have := HL.out; omega
      obtain ⟨g, off, rfl, hgl, _⟩ := HW.out.2 (by omega)
      have hc0 := fun w' (hb : Below w.heap.size w w') => (HW.out.keep hb).c0 k hkl
      have hc1 := fun w' (hb : Below w.heap.size w w') => (HW.out.keep hb).c1 k hkl
      have htk : ws.take k ++ [(ws[k].1, ws[k].2)] = ws.take (k + 1) := by rw [List.take_succ_eq_append_getElem hkl]
      obtain ⟨f, hf⟩ : ∃ f, f = ws[k].1 := ⟨_, rfl⟩
      obtain ⟨t, ht⟩ : ∃ t, t = ws[k].2 := ⟨_, rfl⟩
      rw [← hf] at hc0 htk
      rw [← ht] at hc1 htk
      have HX0 := Lib.hid hc0
      have HX1 := Lib.hid hc1
      have HT := Lib.hid htk
      have hle : (ws.take k).length + [(f, t)].length ≤ 1000000000 := by have := HN.out; rw [List.length_take]; simp; omega
      clear hc0 hc1 hf ht htk
      have hk0 : (0 : Int) ≤ (k : Int) := Int.natCast_nonneg _
      have hk1 : (k : Int) < (n : Int) := by omega
      have hk2 : (k : Int) < 40 := by have := HN.out; omega
      go_wp2_with (first | ((first | with_reducible refine at_load ?_ | ((with_reducible refine at_load_g ?_ ?_); (· rfl))); first | refine lc hM ?_ | refine ll hM ?_ | refine lp hM ?_) | ((with_reducible refine at_store ?_); first | (refine ls hM ?_; clear hM; intro wx hM) | (refine lw hM ?_; clear hM; intro wx hM) | (refine lt hM ?_; clear hM; intro wx hM)) | ((with_reducible refine at_alloc ?_); refine lz hM ?_; clear hM; intro gx wx hM) | ((with_reducible refine at_box ?_); refine lb hM ?_; clear hM; intro gx wx hM))
      refine wp_region_allB hM 16 (by kernel_rfl) ?_
      clear hM
      intro wd hM
      have HM0 := Lib.hid hM
      have hS := Below.refl wd.heap.size wd
      refine wpAllT_takes [0, 2, 4, 8, 10, 1, 3, 9, 5, 6, 7, 11, 12, 13, 14] (by kernel_rfl) (fun _ _ _ _ _ h => h) hS (by kernel_rfl) ?_
      simp only [pickOps, List.filterMap_cons, List.filterMap_nil, List.getElem?_cons_zero, List.getElem?_cons_succ]
      repeat ((with_reducible apply wpHeld_step); (· rfl); (· (intro wq hSw; first | (go_simp; rfl) | (have hM' := HM0.out.step hSw; first | exact yields_load (C := fun _ => True) (qc hM') rfl | exact yields_load (C := fun _ => True) (ql hM') rfl | exact yields_load (C := fun _ => True) (qp hM') rfl | exact yields_load (C := fun _ => True) (qo (HX0.out _ hM'.below)) rfl | exact yields_load (C := fun _ => True) (qo (HX1.out _ hM'.below)) rfl))); intro K hK; go_simp; (with_reducible refine hK _ ?_); clear hK K)
      refine wpHeld_nil ?_
      refine wpAllT_one 15 rfl (by kernel_rfl) ?_
      refine lbw (Mem.start [] wd) ?_
      intro gw ww hF
      refine wpList_then ⟨.inr hF.below, ?_⟩
      replace hM := hM.frame hF
      clear hF hS HM0
      go_simp
      refine wpAllT_one 16 rfl (by kernel_rfl) ?_
      refine law (win_src (c := 1) (wins_one hM (List.Mem.head _))) hM hle ?_
      clear hM
      intro A2 N2 c2 wx hN hM
      refine wpList_then ⟨.inl (by kernel_rfl), wpAllT_drop (by kernel_rfl) ?_⟩
      go_simp
      refine wpAll_seq [17, 18] (by kernel_rfl) ?_
      simp only [pickOps, List.filterMap_cons, List.filterMap_nil, List.getElem?_cons_zero, List.getElem?_cons_succ]
      repeat (first | ((first | ((with_reducible refine at_store ?_); refine ls hM ?_ (v := .slice A2 N2 c2); clear hM; intro wx hM) | ((first | with_reducible refine at_load ?_ | ((with_reducible refine at_load_g ?_ ?_); (· rfl))); first | refine lc hM ?_ | refine ll hM ?_ | refine lp hM ?_) | ((with_reducible refine at_store ?_); first | (refine ls hM ?_; clear hM; intro wx hM) | (refine lw hM ?_; clear hM; intro wx hM) | (refine lt hM ?_; clear hM; intro wx hM)) | ((with_reducible refine at_alloc ?_); refine lz hM ?_; clear hM; intro gx wx hM) | ((with_reducible refine at_box ?_); refine lb hM ?_; clear hM; intro gx wx hM)); go_simp) | ((with_reducible apply wpList_pure); (· rfl); (· (go_simp; rfl)); go_simp))
      refine wpList_end ?_
      go_wp2_with (first | ((first | with_reducible refine at_load ?_ | ((with_reducible refine at_load_g ?_ ?_); (· rfl))); first | refine lc hM ?_ | refine ll hM ?_ | refine lp hM ?_) | ((with_reducible refine at_store ?_); first | (refine ls hM ?_; clear hM; intro wx hM) | (refine lw hM ?_; clear hM; intro wx hM) | (refine lt hM ?_; clear hM; intro wx hM)) | ((with_reducible refine at_alloc ?_); refine lz hM ?_; clear hM; intro gx wx hM) | ((with_reducible refine at_box ?_); refine lb hM ?_; clear hM; intro gx wx hM))
      have hN2 : N2 = k + 1 := by rw [hN.out, List.length_append, List.length_take]; have := HL.out; simp; omega
      subst hN2
      rw [HT.out] at hM
      exact ⟨⟨k + 1, c2, A2, by omega, by go_num, hM.subL (List.sublist_cons_self _ _)⟩, by simp [intOf]; omega⟩
    · obtain rfl : k = n := by omega
      have htk : ws.take k = ws := List.take_of_length_le (by have := HL.out; omega)
      rw [htk] at hM
      go_wp2_with (first | ((first | with_reducible refine at_load ?_ | ((with_reducible refine at_load_g ?_ ?_); (· rfl))); first | refine lc hM ?_ | refine ll hM ?_ | refine lp hM ?_) | ((with_reducible refine at_store ?_); first | (refine ls hM ?_; clear hM; intro wx hM) | (refine lw hM ?_; clear hM; intro wx hM) | (refine lt hM ?_; clear hM; intro wx hM)) | ((with_reducible refine at_alloc ?_); refine lz hM ?_; clear hM; intro gx wx hM) | ((with_reducible refine at_box ?_); refine lb hM ?_; clear hM; intro gx wx hM))
      exact bodyPost_ret (results_mem_cell hM rfl (by rfl) (by repeat (first | exact List.Mem.head _ | apply List.Mem.tail)) (by first | exact row_cfg | exact row_win | exact row_line | exact row_end | exact row_ends | exact row_pkt | exact row_C | exact row_W | exact row_L | exact row_End | exact row_Ends | exact row_B | exact row_op | exact row_str2 | exact row_b3)) rfl ⟨A', k, c', HL.out, rfl, hM.becomes (by exact List.Mem.head _)⟩
end Go.Proofs.Ytenflgbaibjeoaa
