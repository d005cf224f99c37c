/- Contract of merkle.Collision. -/
import Derived.Test.YtbbdnlcjjcmllaaDoorMy
namespace Go.Proofs.YtbbdnlcjjcmllaaDoor
open Go Go.RowKit Go.Bul Go.Thg Go.Lin
set_option maxRecDepth 20000 in
set_option maxHeartbeats 8000000 in
theorem coll_any (idx : Int) (x : Nd) (A : Option Addr) (n c : Nat) (pa : List Nd) (y : Nd) (B : Option Addr) (m d : Nat) (pb : List Nd) (w : World) (hA : NIn w A n pa) (hB : NIn w B m pb) (hn : n ≤ 1000000) (hm : m ≤ 1000000) (hT : Tab w) :
    Calls Tryd.prog 30 #[.int .i64 idx, .agg (ndC x), .slice A n c, .agg (ndC y), .slice B m d] w fun e w' => e = .returned (.tuple #[.agg (twoO (pairsF idx 0 x pa) (pairsF idx 0 y pb) (collO idx x pa y pb)), .bool (collO idx x pa y pb).isSome]) ∧ Below w.heap.size w w' := by
  have hM := Mem.start [] w
  have hla := hA.len
  have hlb := hB.len
  have HFA := Lib.hid (fun w' (hb : Below w.heap.size w w') => from_any x idx A n c pa w' (hA.keep hb) hn (hT.keep hb))
  have HFB := Lib.hid (fun w' (hb : Below w.heap.size w w') => from_any y idx B m d pb w' (hB.keep hb) hm (hT.keep hb))
  have hq := eq_nd (fromF x idx pa).1 (fromF y idx pb).1
  unfold collO agree
  rw [← hla, ← hlb]
  by_cases ha : (fromF x idx pa).2 = 0
  · by_cases hb : (fromF y idx pb).2 = 0
    · by_cases hnm : n = m
      · subst hnm
        by_cases hr : (fromF x idx pa).1 = (fromF y idx pb).1
        · rw [if_pos (by simp [ha, hb, hr])]
          rw [decide_eq_true hr] at hq
          obtain ⟨h10, h0, h1, _⟩ := fromF_zero ha
          rw [← hla] at h10 h1
          obtain ⟨j, rfl⟩ : ∃ j : Nat, idx = (j : Int) := ⟨idx.toNat, by omega⟩
          have hj : j < 1024 := by
            have h2 : (2 : Int) ^ n = ((2 ^ n : Nat) : Int) := by simp
            have h3 : 2 ^ n ≤ 2 ^ 10 := Nat.pow_le_pow_right (by decide) h10
            omega
          rw [ha] at HFA
          rw [hb] at HFB
          generalize (fromF x (j : Int) pa).1 = Za at HFA hq
          generalize (fromF y (j : Int) pb).1 = Zb at HFB hq
          have hxl := pairsF_length (j : Int) pa 0 x
          have hyl := pairsF_length (j : Int) pb 0 y
          obtain ⟨xs, hxs⟩ : ∃ l, pairsF (j : Int) 0 x pa = l := ⟨_, rfl⟩
          obtain ⟨ys, hys⟩ : ∃ l, pairsF (j : Int) 0 y pb = l := ⟨_, rfl⟩
          rw [hxs] at hxl ⊢
          rw [hys] at hyl ⊢
          have HX0 : Hid (pairsF (j : Int) 0 x (pa.drop 0) = xs.drop 0) := Lib.hid hxs
          have HY0 : Hid (pairsF (j : Int) 0 y (pb.drop 0) = ys.drop 0) := Lib.hid hys
          obtain ⟨O, hO⟩ : ∃ o, diffAt xs ys n = o := ⟨_, rfl⟩
          rw [hO]
          have HO := Lib.hid hO
          have hTs := twoO_size xs ys O
          have hTo := twoO_one xs ys O
          obtain ⟨TT, hTT⟩ : ∃ T, twoO xs ys O = T := ⟨_, rfl⟩
          rw [hTT] at hTs hTo ⊢
          have HTT := Lib.hid hTT
          have HTS := Lib.hid hTs
          have HTO1 := Lib.hid hTo
          clear hTT hTs hTo
          have HRA := Lib.hid hA
          have HRB := Lib.hid hB
          have HLA := Lib.hid hla
          have HLB := Lib.hid hlb
          have HXL := Lib.hid hxl
          have HYL := Lib.hid hyl
          have HT := Lib.hid hT
          have HJ := Lib.hid hj
          have n1 : (n : Int) ≤ 10 := by omega
          have hj0 : (0 : Int) ≤ (j : Int) := Int.natCast_nonneg _
          have hj1 : (j : Int) < 1024 := by omega
          clear ha hb hr hla hlb hm hA hB hT hn h0 h1 hxs hys hxl hyl hO
          go_enter Tryd.func30, Tryd.ntmps30
          go_upto_region 7 with (first | (refine lz hM ?_ (hz := zero_mtwo); clear hM; intro g wz hM) | ((with_reducible refine (HFA.out _ hM.below).mono ?_); rintro e w1 ⟨rfl, hb⟩; replace hM := hM.step hb; clear hb) | ((with_reducible refine (HFB.out _ hM.below).mono ?_); rintro e w1 ⟨rfl, hb⟩; replace hM := hM.step hb; clear hb) | ((first | with_reducible refine at_load ?_ | ((with_reducible refine at_load_g ?_ ?_); (· rfl))); first | refine ll hM ?_ | refine lc hM ?_ | refine lp hM ?_) | ((with_reducible refine at_store ?_); first | (refine lw hM ?_; clear hM; intro wx hM) | (refine ls hM ?_; clear hM; intro wx hM) | (refine lt hM ?_; clear hM; intro wx hM)) | ((with_reducible refine at_alloc ?_); refine lz hM ?_; clear hM; intro gx wx hM) | ((with_reducible refine at_box ?_); refine lb hM ?_; clear hM; intro gx wx hM))
          obtain ⟨g16, hg16⟩ := hM.name1
          obtain ⟨g10, hg10⟩ := (hM.subL (List.Sublist.cons _ (List.Sublist.cons _ (List.Sublist.cons _ (List.Sublist.refl _))))).name1
          obtain ⟨g8, hg8⟩ := (hM.subL (List.Sublist.cons _ (List.Sublist.cons _ (List.Sublist.cons _ (List.Sublist.cons _ (List.Sublist.refl _)))))).name1
          obtain ⟨g6, hg6⟩ := (hM.subL (List.Sublist.cons _ (List.Sublist.cons _ (List.Sublist.cons _ (List.Sublist.cons _ (List.Sublist.cons _ (List.Sublist.refl _))))))).name1
          subst hg16 hg10 hg8 hg6
          replace hM := hM.subL (L' := [⟨g16, 44, 65, twoC 0 (nd0, nd0) (nd0, nd0)⟩, ⟨g10, 44, 65, twoC 0 (nd0, nd0) (nd0, nd0)⟩, ⟨g8, 41, 16, ndC y⟩, ⟨g6, 41, 16, ndC x⟩]) (List.Sublist.cons_cons _ (List.Sublist.cons _ (List.Sublist.cons _ (List.Sublist.cons_cons _ (List.Sublist.cons_cons _ (List.Sublist.cons_cons _ (List.nil_sublist _)))))))
          refine wp_region_allHM hM (HeldM [⟨g8, 41, 16, ndC y⟩, ⟨g6, 41, 16, ndC x⟩]) (by kernel_rfl) ?_
          clear hM
          intro wd hM
          have hS := HeldM.of (hM.subL (L' := [_, _]) (List.Sublist.cons _ (List.Sublist.cons _ (List.Sublist.refl _))))
          refine wpAllH_takes [0, 1, 3, 4] (by kernel_rfl) (fun _ _ _ _ _ h => h) hS (by kernel_rfl) ?_
          simp only [pickOps, List.filterMap_cons, List.filterMap_nil, List.getElem?_cons_zero, List.getElem?_cons_succ]
          repeat ((with_reducible apply wpHeld_step); (· rfl); (· (intro w hSw; first | (go_simp; rfl) | ((obtain ⟨_, _, _, hM'⟩ := hSw; exact yields_load (C := fun _ => True) (ql hM') rfl)))); intro K hK; go_simp; (with_reducible refine hK _ ?_); clear hK K)
          refine wpHeld_nil ?_
          refine wpAllH_one 2 rfl (by kernel_rfl) ?_
          go_wp2_with fail
          refine (climb_any x _ _).mono ?_
          rintro e w1 ⟨a5, a3, a6, rfl, hc⟩
          replace hM := hM.frame hc
          clear hc hS
          go_wp2_with fail
          have hS := HeldM.of (hM.subL (L' := [⟨g8, 41, 16, ndC y⟩, ⟨g6, 41, 16, ndC x⟩]) (List.Sublist.cons _ (List.Sublist.cons _ (List.Sublist.cons _ (List.Sublist.cons _ (List.Sublist.cons _ (List.Sublist.refl _)))))))
          refine then_normal ⟨hS, ?_⟩
          refine wpAllH_one 5 rfl (by kernel_rfl) ?_
          go_wp2_with fail
          refine (climb_any y _ _).mono ?_
          rintro e w1 ⟨b5, b3, b6, rfl, hc⟩
          replace hM := hM.frame hc
          clear hc hS
          go_wp2_with fail
          have hS := HeldM.of (hM.subL (L' := [⟨g8, 41, 16, ndC y⟩, ⟨g6, 41, 16, ndC x⟩]) (List.Sublist.cons _ (List.Sublist.cons _ (List.Sublist.cons _ (List.Sublist.cons _ (List.Sublist.cons _ (List.Sublist.cons _ (List.Sublist.cons _ (List.Sublist.cons _ (List.Sublist.refl _))))))))))
          refine then_normal ⟨hS, ?_⟩
          refine wpAllH_takes [6, 7] (by kernel_rfl) (fun _ _ _ _ _ h => h) hS (by kernel_rfl) ?_
          simp only [pickOps, List.filterMap_cons, List.filterMap_nil, List.getElem?_cons_zero, List.getElem?_cons_succ]
          repeat ((with_reducible apply wpHeld_step); (· rfl); (· (intro w hSw; first | (go_simp; rfl) | (fail))); intro K hK; go_simp; (with_reducible refine hK _ ?_); clear hK K)
          refine wpHeld_nil ?_
          refine wpAllH_done (by kernel_rfl) ?_
          clear hS
          replace hM := hM.subL (L' := [_, _, _, _, _, _, _, _]) (List.Sublist.cons_cons _ (List.Sublist.cons_cons _ (List.Sublist.cons_cons _ (List.Sublist.cons_cons _ (List.Sublist.cons_cons _ (List.Sublist.cons_cons _ (List.Sublist.cons_cons _ (List.Sublist.cons_cons _ (List.nil_sublist _)))))))))
          go_wp2_with fail
          have M0 := Lib.hid hM
          clear hM
          go_loopw [66, 17] (fun i f wr => ∃ (k : Nat) (u v : Nd), k ≤ n ∧ i = .int .i64 (k : Nat) ∧ f = .bool (diffAt xs ys k).isSome ∧ Hid (pairsF (j : Int) k u (pa.drop k) = xs.drop k) ∧ Hid (pairsF (j : Int) k v (pb.drop k) = ys.drop k) ∧ Mem [] w [⟨b5, 41, 16, ndC v⟩, ⟨b3, 3, 1, #[.int .i64 (j : Nat)]⟩, ⟨b6, 3, 1, #[.int .i64 (k : Nat)]⟩, ⟨a5, 41, 16, ndC u⟩, ⟨a3, 3, 1, #[.int .i64 (j : Nat)]⟩, ⟨a6, 3, 1, #[.int .i64 (k : Nat)]⟩, ⟨g16, 44, 65, twoO xs ys (diffAt xs ys k)⟩, ⟨g10, 44, 65, twoC 0 (nd0, nd0) (nd0, nd0)⟩] [] wr) (fun i _ _ => n - (intOf i).toNat)
          case atStart => exact ⟨0, x, y, by omega, rfl, rfl, HX0, HY0, M0.out⟩
          case round =>
            clear M0
            obtain ⟨k, u, v, hk, rfl, rfl, HXK, HYK, hM⟩ := hrel
            by_cases hlt : k < n
            · have hka : k < pa.length := by have := HLA.out; omega
              have hkb : k < pb.length := by have := HLB.out; omega
              have hkx : k < xs.length := by have := HXL.out; omega
              have hky : k < ys.length := by have := HYL.out; omega
              obtain ⟨ga, oa, rfl, _, h5⟩ := NIn.row HRA.out k hka
              obtain ⟨gb, ob, rfl, _, h6⟩ := NIn.row HRB.out k hkb
              have HCA := Lib.hid (fun w' (hb : Below w.heap.size w w') => NIn.cell (HRA.out.keep hb) k hka)
              have HCB := Lib.hid (fun w' (hb : Below w.heap.size w w') => NIn.cell (HRB.out.keep hb) k hkb)
              obtain ⟨sa, hsa⟩ : ∃ s, pa[k] = s := ⟨_, rfl⟩
              obtain ⟨sb, hsb⟩ : ∃ s, pb[k] = s := ⟨_, rfl⟩
              have hda : pa.drop k = sa :: pa.drop (k + 1) := by rw [List.drop_eq_getElem_cons hka, hsa]
              have hdb : pb.drop k = sb :: pb.drop (k + 1) := by rw [List.drop_eq_getElem_cons hkb, hsb]
              rw [hsa] at HCA
              rw [hsb] at HCB
              have hx1 : pairN (j : Int) k u sa :: pairsF (j : Int) (k + 1) (stepN (j : Int) k u sa) (pa.drop (k + 1)) = xs[k] :: xs.drop (k + 1) := by
                have h := HXK.out
                rw [hda, List.drop_eq_getElem_cons hkx] at h
                exact h
              have hy1 : pairN (j : Int) k v sb :: pairsF (j : Int) (k + 1) (stepN (j : Int) k v sb) (pb.drop (k + 1)) = ys[k] :: ys.drop (k + 1) := by
                have h := HYK.out
                rw [hdb, List.drop_eq_getElem_cons hky] at h
                exact h
              have HSA := Lib.hid (fun (L : List Ent) (R : List Thing) w' (h : Mem [] w (⟨a5, 41, 16, ndC u⟩ :: ⟨a3, 3, 1, #[.int .i64 (j : Nat)]⟩ :: ⟨a6, 3, 1, #[.int .i64 (k : Nat)]⟩ :: L) R w') => climb_step (s := sa) h (fun L R w' h => HT.out.keep h.below) hj0 hj1 (by omega) (by omega))
              have HSB := Lib.hid (fun (L : List Ent) (R : List Thing) w' (h : Mem [] w (⟨b5, 41, 16, ndC v⟩ :: ⟨b3, 3, 1, #[.int .i64 (j : Nat)]⟩ :: ⟨b6, 3, 1, #[.int .i64 (k : Nat)]⟩ :: L) R w') => climb_step (s := sb) h (fun L R w' h => HT.out.keep h.below) hj0 hj1 (by omega) (by omega))
              injection hx1 with hx2 hx3
              injection hy1 with hy2 hy3
              rw [hx2] at HSA
              rw [hy2] at HSB
              have HX3 := Lib.hid hx3
              have HY3 := Lib.hid hy3
              generalize stepN (j : Int) k u sa = u2 at HSA HX3
              generalize stepN (j : Int) k v sb = v2 at HSB HY3
              have hdf : diffAt xs ys (k + 1) = if xs[k] = ys[k] then diffAt xs ys k else some k := by
                show (if xs[k]? = ys[k]? then _ else _) = _
                rw [List.getElem?_eq_getElem hkx, List.getElem?_eq_getElem hky]
                simp
              have hgx : xs.getD k (nd0, nd0) = xs[k] := by rw [List.getD_eq_getElem?_getD, List.getElem?_eq_getElem hkx]; rfl
              have hgy : ys.getD k (nd0, nd0) = ys[k] := by rw [List.getD_eq_getElem?_getD, List.getElem?_eq_getElem hky]; rfl
              have htw : twoO xs ys (some k) = twoC ((k : Int) + 1) xs[k] ys[k] := by
                show twoC _ (xs.getD k (nd0, nd0)) (ys.getD k (nd0, nd0)) = _
                rw [hgx, hgy]
              generalize xs[k] = PA at HSA hdf htw
              generalize ys[k] = PB at HSB hdf htw
              have k0 : (0 : Int) ≤ (k : Int) := Int.natCast_nonneg _
              have k1 : (k : Int) < (n : Int) := by omega
              have w1 : IntKind.i64.wrap ((k : Int) + 1) = (k : Int) + 1 := IntWalk.i64_in _ ⟨by omega, by omega⟩
              have hpq := eq_pr 9997 PA PB
              have HTW := Lib.hid htw
              obtain ⟨o, ho⟩ : ∃ o, diffAt xs ys k = o := ⟨_, rfl⟩
              rw [ho] at hdf hM ⊢
              have hso := twoO_size xs ys o
              obtain ⟨T, hTO⟩ : ∃ T, twoO xs ys o = T := ⟨_, rfl⟩
              rw [hTO] at hM hso
              have HTO := Lib.hid hTO
              have HSO := Lib.hid hso
              replace hM := hM.permL ((List.perm_append_comm (l₁ := ([⟨a5, 41, 16, ndC u⟩, ⟨a3, 3, 1, #[.int .i64 (j : Nat)]⟩, ⟨a6, 3, 1, #[.int .i64 (k : Nat)]⟩] : List Ent)) (l₂ := [_, _, _])).append_right [_, _])
              simp only [List.cons_append, List.nil_append] at hM
              clear hka hkb hkx hky h5 h6 hsa hsb hda hdb hx2 hx3 hy2 hy3 HXK HYK hgx hgy htw ho hTO hso
              by_cases hpp : PA = PB
              · rw [decide_eq_true hpp] at hpq
                rw [if_pos hpp] at hdf
                have HDF := Lib.hid hdf
                clear hpp hdf
                go_upto_region 12 with (first | ((with_reducible refine at_load ?_); refine lr (HCA.out _ hM.below) ?_) | ((with_reducible refine (HSA.out _ _ _ hM).mono ?_); clear hM; rintro e w1 ⟨rfl, hM⟩) | ((first | with_reducible refine at_load ?_ | ((with_reducible refine at_load_g ?_ ?_); (· rfl))); first | refine ll hM ?_ | refine lc hM ?_ | refine lp hM ?_) | ((with_reducible refine at_store ?_); first | (refine lw hM ?_; clear hM; intro wx hM) | (refine ls hM ?_; clear hM; intro wx hM) | (refine lt hM ?_; clear hM; intro wx hM)) | ((with_reducible refine at_alloc ?_); refine lz hM ?_; clear hM; intro gx wx hM) | ((with_reducible refine at_box ?_); refine lb hM ?_; clear hM; intro gx wx hM))
                obtain ⟨g22, hg22⟩ := hM.name1
                obtain ⟨g21, hg21⟩ := (hM.subL (List.sublist_cons_self _ _)).name1
                subst hg22 hg21
                replace hM := hM.permL ((List.perm_append_comm (l₁ := ([⟨b5, 41, 16, ndC v⟩, ⟨b3, 3, 1, #[.int .i64 (j : Nat)]⟩, ⟨b6, 3, 1, #[.int .i64 (k : Nat)]⟩] : List Ent)) (l₂ := [_, _, _, _, _])).append_right [_, _])
                simp only [List.cons_append, List.nil_append] at hM
                go_upto_region 13 with (first | ((with_reducible refine at_load ?_); refine lr (HCB.out _ hM.below) ?_) | ((with_reducible refine (HSB.out _ _ _ hM).mono ?_); clear hM; rintro e w1 ⟨rfl, hM⟩) | ((first | with_reducible refine at_load ?_ | ((with_reducible refine at_load_g ?_ ?_); (· rfl))); first | refine ll hM ?_ | refine lc hM ?_ | refine lp hM ?_) | ((with_reducible refine at_store ?_); first | (refine lw hM ?_; clear hM; intro wx hM) | (refine ls hM ?_; clear hM; intro wx hM) | (refine lt hM ?_; clear hM; intro wx hM)) | ((with_reducible refine at_alloc ?_); refine lz hM ?_; clear hM; intro gx wx hM) | ((with_reducible refine at_box ?_); refine lb hM ?_; clear hM; intro gx wx hM))
                go_wp2_with (first | ((first | with_reducible refine at_load ?_ | ((with_reducible refine at_load_g ?_ ?_); (· rfl))); first | refine ll hM ?_ | refine lc hM ?_ | refine lp hM ?_) | ((with_reducible refine at_store ?_); first | (refine lw hM ?_; clear hM; intro wx hM) | (refine ls hM ?_; clear hM; intro wx hM) | (refine lt hM ?_; clear hM; intro wx hM)) | ((with_reducible refine at_alloc ?_); refine lz hM ?_; clear hM; intro gx wx hM) | ((with_reducible refine at_box ?_); refine lb hM ?_; clear hM; intro gx wx hM))
                exact ⟨⟨k + 1, u2, v2, by omega, by go_num, by rw [HDF.out], HX3, HY3, by rw [HDF.out, HTO.out, show ((k + 1 : Nat) : Int) = (k : Int) + 1 by omega]; exact hM.subL (List.Sublist.cons _ (List.Sublist.cons _ (List.Sublist.cons_cons _ (List.Sublist.cons_cons _ (List.Sublist.cons_cons _ (List.Sublist.cons _ (List.Sublist.cons _ (List.Sublist.refl _))))))))⟩, by simp [intOf]; omega⟩
              · rw [decide_eq_false hpp] at hpq
                rw [if_neg hpp] at hdf
                have HDF := Lib.hid hdf
                clear hpp hdf
                go_upto_region 12 with (first | ((with_reducible refine at_load ?_); refine lr (HCA.out _ hM.below) ?_) | ((with_reducible refine (HSA.out _ _ _ hM).mono ?_); clear hM; rintro e w1 ⟨rfl, hM⟩) | ((first | with_reducible refine at_load ?_ | ((with_reducible refine at_load_g ?_ ?_); (· rfl))); first | refine ll hM ?_ | refine lc hM ?_ | refine lp hM ?_) | ((with_reducible refine at_store ?_); first | (refine lw hM ?_; clear hM; intro wx hM) | (refine ls hM ?_; clear hM; intro wx hM) | (refine lt hM ?_; clear hM; intro wx hM)) | ((with_reducible refine at_alloc ?_); refine lz hM ?_; clear hM; intro gx wx hM) | ((with_reducible refine at_box ?_); refine lb hM ?_; clear hM; intro gx wx hM))
                obtain ⟨g22, hg22⟩ := hM.name1
                obtain ⟨g21, hg21⟩ := (hM.subL (List.sublist_cons_self _ _)).name1
                subst hg22 hg21
                replace hM := hM.permL ((List.perm_append_comm (l₁ := ([⟨b5, 41, 16, ndC v⟩, ⟨b3, 3, 1, #[.int .i64 (j : Nat)]⟩, ⟨b6, 3, 1, #[.int .i64 (k : Nat)]⟩] : List Ent)) (l₂ := [_, _, _, _, _])).append_right [_, _])
                simp only [List.cons_append, List.nil_append] at hM
                go_upto_region 13 with (first | ((with_reducible refine at_load ?_); refine lr (HCB.out _ hM.below) ?_) | ((with_reducible refine (HSB.out _ _ _ hM).mono ?_); clear hM; rintro e w1 ⟨rfl, hM⟩) | ((first | with_reducible refine at_load ?_ | ((with_reducible refine at_load_g ?_ ?_); (· rfl))); first | refine ll hM ?_ | refine lc hM ?_ | refine lp hM ?_) | ((with_reducible refine at_store ?_); first | (refine lw hM ?_; clear hM; intro wx hM) | (refine ls hM ?_; clear hM; intro wx hM) | (refine lt hM ?_; clear hM; intro wx hM)) | ((with_reducible refine at_alloc ?_); refine lz hM ?_; clear hM; intro gx wx hM) | ((with_reducible refine at_box ?_); refine lb hM ?_; clear hM; intro gx wx hM))
                go_wp2_with (first | ((with_reducible refine at_load ?_); refine ll hM ?_; go_simp; (with_reducible refine at_build ?_); refine lbt ?_ (lev := (k : Int) + 1) (p := PA) (q := PB); go_simp; refine lw hM ?_ (hs := twoC_size _ _ _) (h1 := twoC_one _ _ _); clear hM; intro wx hM) | ((first | with_reducible refine at_load ?_ | ((with_reducible refine at_load_g ?_ ?_); (· rfl))); first | refine ll hM ?_ | refine lc hM ?_ | refine lp hM ?_) | ((with_reducible refine at_store ?_); first | (refine lw hM ?_; clear hM; intro wx hM) | (refine ls hM ?_; clear hM; intro wx hM) | (refine lt hM ?_; clear hM; intro wx hM)) | ((with_reducible refine at_alloc ?_); refine lz hM ?_; clear hM; intro gx wx hM) | ((with_reducible refine at_box ?_); refine lb hM ?_; clear hM; intro gx wx hM))
                exact ⟨⟨k + 1, u2, v2, by omega, by go_num, by rw [HDF.out]; rfl, HX3, HY3, by rw [HDF.out, HTW.out, show ((k + 1 : Nat) : Int) = (k : Int) + 1 by omega]; exact hM.subL (List.Sublist.cons _ (List.Sublist.cons _ (List.Sublist.cons_cons _ (List.Sublist.cons_cons _ (List.Sublist.cons_cons _ (List.Sublist.cons _ (List.Sublist.cons _ (List.Sublist.refl _))))))))⟩, by simp [intOf]; omega⟩
            · obtain rfl : k = n := by omega
              rw [HO.out] at hM ⊢
              rw [HTT.out] at hM
              clear hlt hk
              go_wp2_with (first | ((with_reducible refine at_load ?_); refine ll hM ?_ (hty := row_two)) | ((with_reducible refine at_store ?_); refine lw hM ?_ (hs := HTS.out) (h1 := HTO1.out) (hty := row_two); clear hM; intro wx hM))
              exact bodyPost_ret (results_mem_cell_tmp hM rfl (by rfl) (by repeat (first | exact List.Mem.head _ | apply List.Mem.tail)) row_two (by rfl)) rfl ⟨rfl, hM.below⟩
        · rw [if_neg (by simp [ha, hb, hr])]
          rw [decide_eq_false hr] at hq
          rw [ha] at HFA
          rw [hb] at HFB
          generalize (fromF x idx pa).1 = Za at HFA hq
          generalize (fromF y idx pb).1 = Zb at HFB hq
          show Calls _ _ _ _ fun e w' => e = .returned (.tuple #[.agg (twoC 0 (nd0, nd0) (nd0, nd0)), .bool false]) ∧ _
          clear ha hb hr hla hlb hn hm hA hB hT
          go_enter Tryd.func30, Tryd.ntmps30
          go_wp2_with (first | (refine lz hM ?_ (hz := zero_mtwo); clear hM; intro g wz hM) | ((with_reducible refine (HFA.out _ hM.below).mono ?_); rintro e w1 ⟨rfl, hb⟩; replace hM := hM.step hb; clear hb) | ((with_reducible refine (HFB.out _ hM.below).mono ?_); rintro e w1 ⟨rfl, hb⟩; replace hM := hM.step hb; clear hb) | ((with_reducible refine at_build ?_); refine lbt0 ?_; go_simp; refine lw hM ?_ (hs := twoC_size _ _ _) (h1 := twoC_one _ _ _); clear hM; intro wx hM) | ((first | with_reducible refine at_load ?_ | ((with_reducible refine at_load_g ?_ ?_); (· rfl))); first | refine ll hM ?_ | refine lc hM ?_ | refine lp hM ?_) | ((with_reducible refine at_store ?_); first | (refine lw hM ?_; clear hM; intro wx hM) | (refine ls hM ?_; clear hM; intro wx hM) | (refine lt hM ?_; clear hM; intro wx hM)) | ((with_reducible refine at_alloc ?_); refine lz hM ?_; clear hM; intro gx wx hM) | ((with_reducible refine at_box ?_); refine lb hM ?_; clear hM; intro gx wx hM))
          exact bodyPost_ret (results_mem_cell_tmp hM rfl (by rfl) (by repeat (first | exact List.Mem.head _ | apply List.Mem.tail)) row_two (by rfl)) rfl ⟨rfl, hM.below⟩
      · rw [if_neg (by simp [ha, hb, hnm])]
        rw [ha] at HFA
        rw [hb] at HFB
        have q1 : ((n : Int) != (m : Int)) = true := by simp; omega
        have q2 : (n != m) = true := by simpa using hnm
        generalize (fromF x idx pa).1 = Za at HFA hq
        generalize (fromF y idx pb).1 = Zb at HFB hq
        show Calls _ _ _ _ fun e w' => e = .returned (.tuple #[.agg (twoC 0 (nd0, nd0) (nd0, nd0)), .bool false]) ∧ _
        clear ha hb hla hlb hn hm hA hB hT hnm hq
        go_enter Tryd.func30, Tryd.ntmps30
        go_wp2_with (first | (refine lz hM ?_ (hz := zero_mtwo); clear hM; intro g wz hM) | ((with_reducible refine (HFA.out _ hM.below).mono ?_); rintro e w1 ⟨rfl, hb⟩; replace hM := hM.step hb; clear hb) | ((with_reducible refine (HFB.out _ hM.below).mono ?_); rintro e w1 ⟨rfl, hb⟩; replace hM := hM.step hb; clear hb) | ((with_reducible refine at_build ?_); refine lbt0 ?_; go_simp; refine lw hM ?_ (hs := twoC_size _ _ _) (h1 := twoC_one _ _ _); clear hM; intro wx hM) | ((first | with_reducible refine at_load ?_ | ((with_reducible refine at_load_g ?_ ?_); (· rfl))); first | refine ll hM ?_ | refine lc hM ?_ | refine lp hM ?_) | ((with_reducible refine at_store ?_); first | (refine lw hM ?_; clear hM; intro wx hM) | (refine ls hM ?_; clear hM; intro wx hM) | (refine lt hM ?_; clear hM; intro wx hM)) | ((with_reducible refine at_alloc ?_); refine lz hM ?_; clear hM; intro gx wx hM) | ((with_reducible refine at_box ?_); refine lb hM ?_; clear hM; intro gx wx hM))
        exact bodyPost_ret (results_mem_cell_tmp hM rfl (by rfl) (by repeat (first | exact List.Mem.head _ | apply List.Mem.tail)) row_two (by rfl)) rfl ⟨rfl, hM.below⟩
    · rw [if_neg (by simp [ha, hb])]
      have q1 : ((fromF y idx pb).2 != 0) = true := by simpa using hb
      rw [ha] at HFA
      generalize (fromF y idx pb).2 = eb at HFB q1
      generalize (fromF x idx pa).1 = Za at HFA hq
      generalize (fromF y idx pb).1 = Zb at HFB hq
      show Calls _ _ _ _ fun e w' => e = .returned (.tuple #[.agg (twoC 0 (nd0, nd0) (nd0, nd0)), .bool false]) ∧ _
      clear ha hb hla hlb hn hm hA hB hT hq
      go_enter Tryd.func30, Tryd.ntmps30
      go_wp2_with (first | (refine lz hM ?_ (hz := zero_mtwo); clear hM; intro g wz hM) | ((with_reducible refine (HFA.out _ hM.below).mono ?_); rintro e w1 ⟨rfl, hb⟩; replace hM := hM.step hb; clear hb) | ((with_reducible refine (HFB.out _ hM.below).mono ?_); rintro e w1 ⟨rfl, hb⟩; replace hM := hM.step hb; clear hb) | ((with_reducible refine at_build ?_); refine lbt0 ?_; go_simp; refine lw hM ?_ (hs := twoC_size _ _ _) (h1 := twoC_one _ _ _); clear hM; intro wx hM) | ((first | with_reducible refine at_load ?_ | ((with_reducible refine at_load_g ?_ ?_); (· rfl))); first | refine ll hM ?_ | refine lc hM ?_ | refine lp hM ?_) | ((with_reducible refine at_store ?_); first | (refine lw hM ?_; clear hM; intro wx hM) | (refine ls hM ?_; clear hM; intro wx hM) | (refine lt hM ?_; clear hM; intro wx hM)) | ((with_reducible refine at_alloc ?_); refine lz hM ?_; clear hM; intro gx wx hM) | ((with_reducible refine at_box ?_); refine lb hM ?_; clear hM; intro gx wx hM))
      exact bodyPost_ret (results_mem_cell_tmp hM rfl (by rfl) (by repeat (first | exact List.Mem.head _ | apply List.Mem.tail)) row_two (by rfl)) rfl ⟨rfl, hM.below⟩
  · rw [if_neg (by simp [ha])]
    have q1 : ((fromF x idx pa).2 != 0) = true := by simpa using ha
    generalize (fromF x idx pa).2 = ea at HFA q1
    generalize (fromF y idx pb).2 = eb at HFB
    generalize (fromF x idx pa).1 = Za at HFA hq
    generalize (fromF y idx pb).1 = Zb at HFB hq
    show Calls _ _ _ _ fun e w' => e = .returned (.tuple #[.agg (twoC 0 (nd0, nd0) (nd0, nd0)), .bool false]) ∧ _
    clear ha hla hlb hn hm hA hB hT hq
    go_enter Tryd.func30, Tryd.ntmps30
    go_wp2_with (first | (refine lz hM ?_ (hz := zero_mtwo); clear hM; intro g wz hM) | ((with_reducible refine (HFA.out _ hM.below).mono ?_); rintro e w1 ⟨rfl, hb⟩; replace hM := hM.step hb; clear hb) | ((with_reducible refine (HFB.out _ hM.below).mono ?_); rintro e w1 ⟨rfl, hb⟩; replace hM := hM.step hb; clear hb) | ((with_reducible refine at_build ?_); refine lbt0 ?_; go_simp; refine lw hM ?_ (hs := twoC_size _ _ _) (h1 := twoC_one _ _ _); clear hM; intro wx hM) | ((first | with_reducible refine at_load ?_ | ((with_reducible refine at_load_g ?_ ?_); (· rfl))); first | refine ll hM ?_ | refine lc hM ?_ | refine lp hM ?_) | ((with_reducible refine at_store ?_); first | (refine lw hM ?_; clear hM; intro wx hM) | (refine ls hM ?_; clear hM; intro wx hM) | (refine lt hM ?_; clear hM; intro wx hM)) | ((with_reducible refine at_alloc ?_); refine lz hM ?_; clear hM; intro gx wx hM) | ((with_reducible refine at_box ?_); refine lb hM ?_; clear hM; intro gx wx hM))
    exact bodyPost_ret (results_mem_cell_tmp hM rfl (by rfl) (by repeat (first | exact List.Mem.head _ | apply List.Mem.tail)) row_two (by rfl)) rfl ⟨rfl, hM.below⟩
end Go.Proofs.YtbbdnlcjjcmllaaDoor
