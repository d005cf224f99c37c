/- Contract of merkle.Join. -/
import Derived.Test.YtcfojkecmchbdaaDoorMae
import Derived.Test.YtcfojkecmchbdaaDoorRgm
namespace Go.Proofs.YtcfojkecmchbdaaDoor
open Go Go.RowKit Go.Bul Go.Thg Go.Lin
theorem cells_list (k : IntKind) (l : List Nat) : (cellsOf k l).toList = vals k l := by simp [cellsOf]
set_option maxRecDepth 20000 in
set_option maxHeartbeats 4000000 in
theorem join_any (z : Int) (a b : Nd) (w : World) (hT : Tab w) :
    Calls Tryd.prog 14 #[.int .i64 z, .agg (ndC a), .agg (ndC b)] w fun e w' => e = .returned (.agg (ndC (joinN z a b))) ∧ Below w.heap.size w w' := by
  have hM := Mem.start [] w
  have hN := wrap_u8 z
  have HH : Hid (joinN z a b = halfN ([1, (z % 256).toNat] ++ (a.val ++ b.val))) := Lib.hid rfl
  have HB : Hid (Bytes ([1, (z % 256).toNat] ++ (a.val ++ b.val))) := Lib.hid (bytes_join z a b)
  have HL : Hid (([1, (z % 256).toNat] ++ (a.val ++ b.val)).length = 34) := Lib.hid (joinL_length z a b)
  have hN3 : (z % 256).toNat < 256 := by omega
  generalize (z % 256).toNat = N at hN HH HB HL hN3
  have n0 : (0 : Int) ≤ (N : Int) := Int.natCast_nonneg _
  have n1 : (N : Int) < 256 := by omega
  have HT := Lib.hid hT
  generalize joinN z a b = Z at HH ⊢
  clear hT
  go_enter Tryd.func14, Tryd.ntmps14
  go_wp2_with (first | ((first | with_reducible refine at_load ?_ | ((with_reducible refine at_load_g ?_ ?_); (· rfl))); first | refine lc hM ?_ | refine ll hM ?_ | refine lp hM ?_) | ((with_reducible refine at_store ?_); first | (refine ls hM ?_; clear hM; intro wx hM) | (refine lw hM ?_; clear hM; intro wx hM) | (refine lt hM ?_; clear hM; intro wx hM)) | ((with_reducible refine at_alloc ?_); refine lz hM ?_; clear hM; intro gx wx hM) | ((with_reducible refine at_box ?_); refine lb hM ?_; clear hM; intro gx wx hM))
  obtain ⟨g5, hg5⟩ := (hM.subL (List.sublist_cons_self _ _)).name1
  obtain ⟨g4, hg4⟩ := (hM.subL (List.Sublist.cons _ (List.Sublist.cons _ (List.Sublist.refl _)))).name1
  subst hg5 hg4
  replace hM := hM.drew
  refine wp_region_all (by kernel_rfl) ?_
  refine wpAll_takes [0, 1, 3, 4] (by kernel_rfl) (fun _ _ _ _ _ h => h) (by kernel_rfl) ?_
  simp only [pickOps, List.filterMap_cons, List.filterMap_nil, List.getElem?_cons_zero, List.getElem?_cons_succ]
  repeat ((with_reducible apply wpPure_step); (· rfl); (· (intro w; go_simp; rfl)); intro K hK; go_simp; (with_reducible refine hK _ ?_); clear hK K)
  refine wpPure_nil ?_
  refine wpAll_one 2 rfl (by kernel_rfl) ?_
  refine lbb2 hM ?_
  clear hM
  intro g1 w1 hM
  refine wpList_then ?_
  go_simp
  refine wpAll_one 5 rfl (by kernel_rfl) ?_
  refine lbs3 hM ?_
  clear hM
  intro g2 w2 hM
  refine wpList_then ?_
  go_simp
  have hcin : CIn w2 (some ⟨g2, 0, none⟩) 3 [(.slice (some ⟨g1, 0, none⟩) 2 2, [1, N]), (.slice (some ⟨g4, 0, none⟩) 16 16, a.val), (.slice (some ⟨g5, 0, none⟩) 16 16, b.val)] := by
    refine ⟨reads_ent hM (List.Mem.head _), fun p hp => ?_⟩
    simp only [List.mem_cons, List.not_mem_nil, or_false] at hp
    rcases hp with rfl | rfl | rfl
    · exact ⟨_, 2, rfl, reads_ent hM (List.Mem.tail _ (List.Mem.head _))⟩
    · refine ⟨some ⟨g4, 0, none⟩, 16, by rw [a.len], ?_⟩
      have h := reads_ent hM (g := g4) (t := 27) (n := 16) (cs := ndC a) (by repeat (first | exact List.Mem.head _ | apply List.Mem.tail))
      rw [cells_list] at h
      rw [a.len]
      exact h
    · refine ⟨some ⟨g5, 0, none⟩, 16, by rw [b.len], ?_⟩
      have h := reads_ent hM (g := g5) (t := 27) (n := 16) (cs := ndC b) (by repeat (first | exact List.Mem.head _ | apply List.Mem.tail))
      rw [cells_list] at h
      rw [b.len]
      exact h
  refine wpAll_one 6 rfl (by kernel_rfl) ?_
  go_wp2_with fail
  refine (concat_any (c := 3) hcin (by simp [total, a.len, b.len]) (by decide)).mono ?_
  rintro e w3 ⟨cA, cc, rfl, hb⟩
  replace hM := hM.newThing hb
  clear hb hcin
  go_wp2_with fail
  refine then_normal ?_
  obtain ⟨Y, hY⟩ : ∃ Y, [1, N] ++ (a.val ++ b.val) = Y := ⟨_, rfl⟩
  have hfl : flatP [(Value.slice (some ⟨g1, 0, none⟩) 2 2, [1, N]), (Value.slice (some ⟨g4, 0, none⟩) 16 16, a.val), (Value.slice (some ⟨g5, 0, none⟩) 16 16, b.val)] = Y := by rw [← hY]; simp [flatP]
  have hYl : Y.length ≤ 1000000 := by rw [← hY, HL.out]; decide
  have HZ := Lib.hid (show Z = halfN Y by rw [HH.out, hY])
  have hYb : Bytes Y := by rw [← hY]; exact HB.out
  rw [hfl] at hM ⊢
  obtain ⟨hrd, _, hnc⟩ := bT_reads (hM.thing _ (List.Mem.head _))
  have HS := Lib.hid (half_c hrd hYb hnc hYl (HT.out.keep hM.below))
  clear hrd hnc hfl hY hYl hYb
  refine wpAll_one 7 rfl (by kernel_rfl) ?_
  go_wp2_with fail
  refine HS.out.mono ?_
  rintro e w4 ⟨rfl, hb⟩
  replace hM := hM.step hb
  clear hb
  go_wp2_with fail
  refine then_normal ?_
  refine wpAll_one 8 rfl (by kernel_rfl) ?_
  refine lw hM ?_
  clear hM
  intro w5 hM
  refine wpList_then (wpAll_done (by kernel_rfl) ?_)
  go_wp2_with fail
  exact bodyPost_ret (results_mem_cell hM rfl (by rfl) (by repeat (first | exact List.Mem.head _ | apply List.Mem.tail)) (by first | exact row_nd | exact row_n | exact row_half | exact row_a32 | exact row_nd2 | exact row_n2 | exact row_two | exact row_claim | exact row_bld | exact row_bnds)) rfl ⟨by rw [HZ.out], hM.below⟩
end Go.Proofs.YtcfojkecmchbdaaDoor
