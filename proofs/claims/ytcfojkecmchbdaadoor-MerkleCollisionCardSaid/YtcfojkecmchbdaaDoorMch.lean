/- Contract of the reference's Collision. -/
import Derived.Test.YtcfojkecmchbdaaDoorMnp
namespace Go.Proofs.YtcfojkecmchbdaaDoor
open Go Go.RowKit Go.Bul Go.Thg Go.Lin
set_option maxRecDepth 20000 in
set_option maxHeartbeats 8000000 in
theorem rcoll_any (idx : Int) (x : Nd) (A : Option Addr) (n c : Nat) (pa : List Nd) (y : Nd) (B : Option Addr) (m d : Nat) (pb : List Nd) (w : World) (hA : NIn w A n pa) (hB : NIn w B m pb) (hn : n ≤ 1000000) (hm : m ≤ 1000000) :
    Calls Tryd.prog 26 #[.int .i64 idx, .agg (ndC x), .slice A n c, .agg (ndC y), .slice B m d] w fun e w' => e = .returned (.tuple #[.agg (twoO (pairsF idx 0 x pa) (pairsF idx 0 y pb) (collO idx x pa y pb)), .bool (collO idx x pa y pb).isSome]) ∧ Below w.heap.size w w' := by
  have hM := Mem.start [] w
  have hla := hA.len
  have hlb := hB.len
  have HPA := Lib.hid (fun w' (hb : Below w.heap.size w w') => rpairs_any x idx A n c pa w' (hA.keep hb) hn)
  have HPB := Lib.hid (fun w' (hb : Below w.heap.size w w') => rpairs_any y idx B m d pb w' (hB.keep hb) hm)
  have hq := eq_rns 9998 (fromF x idx pa).1 (fromF y idx pb).1
  have hea := pairsE_length x idx pa
  have heb := pairsE_length y idx pb
  unfold collO agree
  by_cases ha : (fromF x idx pa).2 = 0
  · obtain ⟨h10, h0, h1, hpa⟩ := fromF_zero ha
    by_cases hb : (fromF y idx pb).2 = 0
    · obtain ⟨h10b, h0b, h1b, hpb⟩ := fromF_zero hb
      have hxl := pairsF_length idx pa 0 x
      have hyl := pairsF_length idx pb 0 y
      rw [ha, hpa] at HPA
      rw [hb, hpb] at HPB
      by_cases hnm : pa.length = pb.length
      · by_cases hr : (fromF x idx pa).1 = (fromF y idx pb).1
        · rw [if_pos (by simp [ha, hb, hr, hnm])]
          rw [decide_eq_true hr] at hq
          obtain ⟨xs, hxs⟩ : ∃ l, pairsF idx 0 x pa = l := ⟨_, rfl⟩
          obtain ⟨ys, hys⟩ : ∃ l, pairsF idx 0 y pb = l := ⟨_, rfl⟩
          rw [hxs] at hxl HPA ⊢
          rw [hys] at hyl HPB ⊢
          have hyx : ys.length = xs.length := by omega
          rw [hyx] at HPB
          rw [← hxl]
          obtain ⟨k0, hk0⟩ : ∃ k, xs.length = k := ⟨_, rfl⟩
          rw [hk0] at HPA HPB hyx ⊢
          obtain ⟨O, hO⟩ : ∃ o, diffAt xs ys k0 = o := ⟨_, rfl⟩
          rw [hO]
          have HO := Lib.hid hO
          obtain ⟨ob, hob⟩ : ∃ o, O.isSome = o := ⟨_, rfl⟩
          obtain ⟨TT, hTT⟩ : ∃ T, twoO xs ys O = T := ⟨_, rfl⟩
          rw [hTT, hob]
          have HTT := Lib.hid hTT
          have HOB := Lib.hid hob
          have HXL := Lib.hid hk0
          have HYL := Lib.hid hyx
          have n1 : (k0 : Int) ≤ 10 := by omega
          have w5 : IntKind.i64.wrap ((k0 : Int) - 1) = (k0 : Int) - 1 := IntWalk.i64_in _ ⟨by omega, by omega⟩
          generalize (fromF x idx pa).1 = Za at HPA hq
          generalize (fromF y idx pb).1 = Zb at HPB hq
          clear ha hb hr hla hlb hm hA hB hn h0 h1 h0b h1b h10 h10b hpa hpb hea heb hnm hxs hys hxl hyl hO hob hTT hk0 hyx
          go_enter Tryd.func26, Tryd.ntmps26
          go_wp2_with (first | ((with_reducible refine (HPA.out _ hM.below).mono ?_); rintro e w1 ⟨P1, c1', rfl, hb⟩; replace hM := hM.newThing hb; clear hb) | ((with_reducible refine (HPB.out _ hM.below).mono ?_); rintro e w1 ⟨P2, c2', rfl, hb⟩; replace hM := hM.newThing hb; clear hb) | (refine lz hM ?_ (hz := zero_rtwo); clear hM; intro g wz hM) | ((first | with_reducible refine at_load ?_ | ((with_reducible refine at_load_g ?_ ?_); (· rfl))); first | refine ll hM ?_ | refine lc hM ?_ | refine lp hM ?_) | ((with_reducible refine at_store ?_); first | (refine lw hM ?_; clear hM; intro wx hM) | (refine ls hM ?_; clear hM; intro wx hM) | (refine lt hM ?_; clear hM; intro wx hM)) | ((with_reducible refine at_alloc ?_); refine lz hM ?_; clear hM; intro gx wx hM) | ((with_reducible refine at_box ?_); refine lb hM ?_; clear hM; intro gx wx hM))
          obtain ⟨g10, hg10⟩ := (hM.subL (List.Sublist.cons _ (List.Sublist.cons _ (List.Sublist.refl _)))).name1
          subst hg10
          have M0 := Lib.hid (hM.subL (L' := [⟨g10, 61, 65, twoC 0 (nd0, nd0) (nd0, nd0)⟩]) (List.Sublist.cons _ (List.Sublist.cons _ (List.Sublist.cons_cons _ (List.nil_sublist _)))))
          clear hM
          go_loopw [18] (fun i wr => ∃ k : Nat, k ≤ k0 ∧ i = .int .i64 ((k : Int) - 1) ∧ Hid (diffAt xs ys k = O) ∧ Mem [] w [⟨g10, 61, 65, twoC 0 (nd0, nd0) (nd0, nd0)⟩] [prT (.slice P2 k0 c2') ys, prT (.slice P1 k0 c1') xs] wr) (fun i _ => (intOf i + 1).toNat)
          case atStart => exact ⟨k0, by omega, rfl, HO, M0.out⟩
          case round =>
            clear M0
            obtain ⟨k, hk, rfl, HK, hM⟩ := hrel
            cases k with
            | zero =>
              have hn0 : O = none := HK.out.symm
              obtain rfl : TT = twoC 0 (nd0, nd0) (nd0, nd0) := by rw [← HTT.out, hn0]; rfl
              obtain rfl : ob = false := by rw [← HOB.out, hn0]; rfl
              rw [show ((0 : Nat) : Int) - 1 = -1 from rfl]
              clear hn0 HTT HOB HK HO
              go_wp2_with (first | ((with_reducible refine at_build ?_); refine lbrt0 ?_; go_simp; refine lw hM ?_ (hs := twoC_size _ _ _) (h1 := twoC_one _ _ _) (hty := row_rtwo); clear hM; intro wx hM))
              exact bodyPost_ret (results_mem_cell_tmp hM rfl (by rfl) (by repeat (first | exact List.Mem.head _ | apply List.Mem.tail)) row_rtwo (by rfl)) rfl ⟨rfl, hM.below⟩
            | succ q =>
              have hqx : q < xs.length := by have := HXL.out; omega
              have hqy : q < ys.length := by have := HYL.out; omega
              obtain ⟨gp, op, rfl, _, h5⟩ := (prT_in (hM.thing (prT (.slice P1 k0 c1') xs) (List.Mem.tail _ (List.Mem.head _)))).row q hqx
              obtain ⟨gq, oq, rfl, _, h6⟩ := (prT_in (hM.thing (prT (.slice P2 k0 c2') ys) (List.Mem.head _))).row q hqy
              have HPX := Lib.hid (fun w' (h : PIn w' (some ⟨gp, op, none⟩) k0 xs) => PIn.cell h q hqx)
              have HPY := Lib.hid (fun w' (h : PIn w' (some ⟨gq, oq, none⟩) k0 ys) => PIn.cell h q hqy)
              have hdf : diffAt xs ys (q + 1) = if xs[q] = ys[q] then diffAt xs ys q else some q := by
                show (if xs[q]? = ys[q]? then _ else _) = _
                rw [List.getElem?_eq_getElem hqx, List.getElem?_eq_getElem hqy]
                simp
              have hgx : xs.getD q (nd0, nd0) = xs[q] := by rw [List.getD_eq_getElem?_getD, List.getElem?_eq_getElem hqx]; rfl
              have hgy : ys.getD q (nd0, nd0) = ys[q] := by rw [List.getD_eq_getElem?_getD, List.getElem?_eq_getElem hqy]; rfl
              have htw : twoO xs ys (some q) = twoC ((q : Int) + 1) xs[q] ys[q] := by
                show twoC _ (xs.getD q (nd0, nd0)) (ys.getD q (nd0, nd0)) = _
                rw [hgx, hgy]
              rw [HK.out] at hdf
              generalize xs[q] = PA at HPX hdf htw h5 hgx
              generalize ys[q] = PB at HPY hdf htw h6 hgy
              have hpq := eq_rpr 9997 PA PB
              rw [show ((q + 1 : Nat) : Int) - 1 = (q : Int) by omega]
              have q0 : (0 : Int) ≤ (q : Int) := Int.natCast_nonneg _
              have q1 : (q : Int) < (k0 : Int) := by omega
              have w1 : IntKind.i64.wrap ((q : Int) + 1) = (q : Int) + 1 := IntWalk.i64_in _ ⟨by omega, by omega⟩
              have w2 : IntKind.i64.wrap ((q : Int) - 1) = (q : Int) - 1 := IntWalk.i64_in _ ⟨by omega, by omega⟩
              clear h5 h6 hgx hgy hqx hqy HK
              by_cases hpp : PA = PB
              · rw [decide_eq_true hpp] at hpq
                rw [if_pos hpp] at hdf
                have HDF := Lib.hid hdf
                clear hpp hdf htw
                go_upto_region 8 with fail
                refine Go.Bul.wp_region_class (Mem _ w _ _) (by kernel_rfl) (by kernel_rfl) hM.drew ?_
                repeat ((with_reducible refine wpQuiet_step (fun K hK => ?_)); (first | ((first | ((with_reducible refine quiet_some ?_ ?_); (· rfl)) | ((with_reducible refine quiet_wanted ?_ ?_); (· rfl))); apply Exists.intro; refine ⟨fun w' hM' => ?_, ?_⟩; (· first | (go_simp; rfl) | exact qc hM' | first | exact qr (HPX.out _ (prT_in (hM'.thing _ (List.Mem.tail _ (List.Mem.head _))))) | exact qr (HPY.out _ (prT_in (hM'.thing _ (List.Mem.head _)))) | exact ql hM' | exact qp hM')) | ((with_reducible refine quiet_unwanted ?_ ?_); (· rfl))); go_simp; (with_reducible refine hK _ ?_); clear hK K)
                refine wpQuiet_nil ?_
                intro wx hM
                go_wp2_with fail
                exact ⟨⟨q, by omega, rfl, Lib.hid HDF.out.symm, hM⟩, by simp [intOf]⟩
              · rw [decide_eq_false hpp] at hpq
                rw [if_neg hpp] at hdf
                obtain rfl : TT = twoC ((q : Int) + 1) PA PB := by rw [← HTT.out, hdf, htw]
                obtain rfl : ob = true := by rw [← HOB.out, hdf]; rfl
                clear hpp hdf htw HTT HOB HO
                go_upto_region 8 with fail
                refine Go.Bul.wp_region_class (Mem _ w _ _) (by kernel_rfl) (by kernel_rfl) hM.drew ?_
                repeat ((with_reducible refine wpQuiet_step (fun K hK => ?_)); (first | ((first | ((with_reducible refine quiet_some ?_ ?_); (· rfl)) | ((with_reducible refine quiet_wanted ?_ ?_); (· rfl))); apply Exists.intro; refine ⟨fun w' hM' => ?_, ?_⟩; (· first | (go_simp; rfl) | exact qc hM' | first | exact qr (HPX.out _ (prT_in (hM'.thing _ (List.Mem.tail _ (List.Mem.head _))))) | exact qr (HPY.out _ (prT_in (hM'.thing _ (List.Mem.head _)))) | exact ql hM' | exact qp hM')) | ((with_reducible refine quiet_unwanted ?_ ?_); (· rfl))); go_simp; (with_reducible refine hK _ ?_); clear hK K)
                refine wpQuiet_nil ?_
                intro wx hM
                go_upto_region 9 with fail
                refine wp_region_allHM hM (fun w' => ∃ L', Mem [] w L' [prT (.slice (some ⟨gq, oq, none⟩) k0 c2') ys, prT (.slice (some ⟨gp, op, none⟩) k0 c1') xs] w') (by kernel_rfl) ?_
                clear hM
                intro wd hM
                have hS : ∃ L', Mem [] w L' [prT (.slice (some ⟨gq, oq, none⟩) k0 c2') ys, prT (.slice (some ⟨gp, op, none⟩) k0 c1') xs] wd := ⟨_, hM⟩
                refine wpAllH_takes [0, 1, 2, 3, 4, 5, 6, 7, 8, 9, 10] (by kernel_rfl) (fun _ _ _ _ _ h => h) hS (by kernel_rfl) ?_
                simp only [pickOps, List.filterMap_cons, List.filterMap_nil, List.getElem?_cons_zero, List.getElem?_cons_succ]
                repeat ((with_reducible apply wpHeld_step); (· rfl); (· (intro w hSw; first | (go_simp; rfl) | ((obtain ⟨_, hM'⟩ := hSw; first | exact held_row (HPX.out _ (prT_in (hM'.thing _ (List.Mem.tail _ (List.Mem.head _))))) | exact held_row (HPY.out _ (prT_in (hM'.thing _ (List.Mem.head _)))) | exact held_rtwo (lev := (q : Int) + 1) (p := PA) (q := PB))))); intro K hK; go_simp; (with_reducible refine hK _ ?_); clear hK K)
                refine wpHeld_nil ?_
                refine wpAllH_one 11 rfl (by kernel_rfl) ?_
                refine lw hM ?_ (hs := twoC_size _ _ _) (h1 := twoC_one _ _ _) (hty := row_rtwo)
                clear hM hS
                intro wy hM
                have hS : ∃ L', Mem [] w L' [prT (.slice (some ⟨gq, oq, none⟩) k0 c2') ys, prT (.slice (some ⟨gp, op, none⟩) k0 c1') xs] wy := ⟨_, hM⟩
                refine wpList_then ⟨hS, ?_⟩
                refine wpAllH_takes [12] (by kernel_rfl) (fun _ _ _ _ _ h => h) hS (by kernel_rfl) ?_
                simp only [pickOps, List.filterMap_cons, List.filterMap_nil, List.getElem?_cons_zero, List.getElem?_cons_succ]
                repeat ((with_reducible apply wpHeld_step); (· rfl); (· (intro w hSw; first | (go_simp; rfl) | (fail))); intro K hK; go_simp; (with_reducible refine hK _ ?_); clear hK K)
                refine wpHeld_nil ?_
                refine wpAllH_done (by kernel_rfl) ?_
                clear hS
                go_wp2_with fail
                exact bodyPost_ret (results_mem_cell_tmp hM rfl (by rfl) (by repeat (first | exact List.Mem.head _ | apply List.Mem.tail)) row_rtwo (by rfl)) rfl ⟨rfl, hM.below⟩
        · rw [if_neg (by simp [ha, hb, hr])]
          rw [decide_eq_false hr] at hq
          generalize (fromF x idx pa).1 = Za at HPA hq
          generalize (fromF y idx pb).1 = Zb at HPB hq
          rw [hxl] at HPA
          rw [hyl, ← hnm] at HPB
          obtain ⟨k0, hk0⟩ : ∃ k, pa.length = k := ⟨_, rfl⟩
          rw [hk0] at HPA HPB
          show Calls _ _ _ _ fun e w' => e = .returned (.tuple #[.agg (twoC 0 (nd0, nd0) (nd0, nd0)), .bool false]) ∧ _
          clear ha hb hr hla hlb hm hA hB hn h0 h1 h0b h1b h10 h10b hpa hpb hea heb hnm hxl hyl hk0
          go_enter Tryd.func26, Tryd.ntmps26
          go_wp2_with (first | ((with_reducible refine (HPA.out _ hM.below).mono ?_); rintro e w1 ⟨P1, c1', rfl, hb⟩; replace hM := hM.newThing hb; clear hb) | ((with_reducible refine (HPB.out _ hM.below).mono ?_); rintro e w1 ⟨P2, c2', rfl, hb⟩; replace hM := hM.newThing hb; clear hb) | (refine lz hM ?_ (hz := zero_rtwo); clear hM; intro g wz hM) | ((with_reducible refine at_build ?_); refine lbrt0 ?_; go_simp; refine lw hM ?_ (hs := twoC_size _ _ _) (h1 := twoC_one _ _ _) (hty := row_rtwo); clear hM; intro wx hM) | ((first | with_reducible refine at_load ?_ | ((with_reducible refine at_load_g ?_ ?_); (· rfl))); first | refine ll hM ?_ | refine lc hM ?_ | refine lp hM ?_) | ((with_reducible refine at_store ?_); first | (refine lw hM ?_; clear hM; intro wx hM) | (refine ls hM ?_; clear hM; intro wx hM) | (refine lt hM ?_; clear hM; intro wx hM)) | ((with_reducible refine at_alloc ?_); refine lz hM ?_; clear hM; intro gx wx hM) | ((with_reducible refine at_box ?_); refine lb hM ?_; clear hM; intro gx wx hM))
          exact bodyPost_ret (results_mem_cell_tmp hM rfl (by rfl) (by repeat (first | exact List.Mem.head _ | apply List.Mem.tail)) row_rtwo (by rfl)) rfl ⟨rfl, hM.below⟩
      · rw [if_neg (by simp [ha, hb, hnm])]
        generalize (fromF x idx pa).1 = Za at HPA hq
        generalize (fromF y idx pb).1 = Zb at HPB hq
        rw [hxl] at HPA
        rw [hyl] at HPB
        have q1 : ((pa.length : Int) != (pb.length : Int)) = true := by simp; omega
        have q2 : (pa.length != pb.length) = true := by simpa using hnm
        generalize pa.length = k1 at HPA q1 q2
        generalize pb.length = k2 at HPB q1 q2
        show Calls _ _ _ _ fun e w' => e = .returned (.tuple #[.agg (twoC 0 (nd0, nd0) (nd0, nd0)), .bool false]) ∧ _
        clear ha hb hla hlb hm hA hB hn h0 h1 h0b h1b h10 h10b hpa hpb hea heb hnm hxl hyl hq
        go_enter Tryd.func26, Tryd.ntmps26
        go_wp2_with (first | ((with_reducible refine (HPA.out _ hM.below).mono ?_); rintro e w1 ⟨P1, c1', rfl, hb⟩; replace hM := hM.newThing hb; clear hb) | ((with_reducible refine (HPB.out _ hM.below).mono ?_); rintro e w1 ⟨P2, c2', rfl, hb⟩; replace hM := hM.newThing hb; clear hb) | (refine lz hM ?_ (hz := zero_rtwo); clear hM; intro g wz hM) | ((with_reducible refine at_build ?_); refine lbrt0 ?_; go_simp; refine lw hM ?_ (hs := twoC_size _ _ _) (h1 := twoC_one _ _ _) (hty := row_rtwo); clear hM; intro wx hM) | ((first | with_reducible refine at_load ?_ | ((with_reducible refine at_load_g ?_ ?_); (· rfl))); first | refine ll hM ?_ | refine lc hM ?_ | refine lp hM ?_) | ((with_reducible refine at_store ?_); first | (refine lw hM ?_; clear hM; intro wx hM) | (refine ls hM ?_; clear hM; intro wx hM) | (refine lt hM ?_; clear hM; intro wx hM)) | ((with_reducible refine at_alloc ?_); refine lz hM ?_; clear hM; intro gx wx hM) | ((with_reducible refine at_box ?_); refine lb hM ?_; clear hM; intro gx wx hM))
        exact bodyPost_ret (results_mem_cell_tmp hM rfl (by rfl) (by repeat (first | exact List.Mem.head _ | apply List.Mem.tail)) row_rtwo (by rfl)) rfl ⟨rfl, hM.below⟩
    · rw [if_neg (by simp [ha, hb])]
      have q1 : ((fromF y idx pb).2 != 0) = true := by simpa using hb
      rw [ha] at HPA
      generalize (fromF y idx pb).2 = eb at HPB q1
      generalize (fromF x idx pa).1 = Za at HPA hq
      generalize (fromF y idx pb).1 = Zb at HPB hq
      generalize pairsE x idx pa = xs at HPA
      generalize pairsE y idx pb = ys at HPB
      show Calls _ _ _ _ fun e w' => e = .returned (.tuple #[.agg (twoC 0 (nd0, nd0) (nd0, nd0)), .bool false]) ∧ _
      clear ha hb hla hlb hm hA hB hn h0 h1 h10 hpa hea heb hq
      go_enter Tryd.func26, Tryd.ntmps26
      go_wp2_with (first | ((with_reducible refine (HPA.out _ hM.below).mono ?_); rintro e w1 ⟨P1, c1', rfl, hb⟩; replace hM := hM.newThing hb; clear hb) | ((with_reducible refine (HPB.out _ hM.below).mono ?_); rintro e w1 ⟨P2, c2', rfl, hb⟩; replace hM := hM.newThing hb; clear hb) | (refine lz hM ?_ (hz := zero_rtwo); clear hM; intro g wz hM) | ((with_reducible refine at_build ?_); refine lbrt0 ?_; go_simp; refine lw hM ?_ (hs := twoC_size _ _ _) (h1 := twoC_one _ _ _) (hty := row_rtwo); clear hM; intro wx hM) | ((first | with_reducible refine at_load ?_ | ((with_reducible refine at_load_g ?_ ?_); (· rfl))); first | refine ll hM ?_ | refine lc hM ?_ | refine lp hM ?_) | ((with_reducible refine at_store ?_); first | (refine lw hM ?_; clear hM; intro wx hM) | (refine ls hM ?_; clear hM; intro wx hM) | (refine lt hM ?_; clear hM; intro wx hM)) | ((with_reducible refine at_alloc ?_); refine lz hM ?_; clear hM; intro gx wx hM) | ((with_reducible refine at_box ?_); refine lb hM ?_; clear hM; intro gx wx hM))
      exact bodyPost_ret (results_mem_cell_tmp hM rfl (by rfl) (by repeat (first | exact List.Mem.head _ | apply List.Mem.tail)) row_rtwo (by rfl)) rfl ⟨rfl, hM.below⟩
  · rw [if_neg (by simp [ha])]
    have q1 : ((fromF x idx pa).2 != 0) = true := by simpa using ha
    generalize (fromF x idx pa).2 = ea at HPA q1
    generalize (fromF y idx pb).2 = eb at HPB
    generalize (fromF x idx pa).1 = Za at HPA hq
    generalize (fromF y idx pb).1 = Zb at HPB hq
    generalize pairsE x idx pa = xs at HPA
    generalize pairsE y idx pb = ys at HPB
    show Calls _ _ _ _ fun e w' => e = .returned (.tuple #[.agg (twoC 0 (nd0, nd0) (nd0, nd0)), .bool false]) ∧ _
    clear ha hla hlb hm hA hB hn hea heb hq
    go_enter Tryd.func26, Tryd.ntmps26
    go_wp2_with (first | ((with_reducible refine (HPA.out _ hM.below).mono ?_); rintro e w1 ⟨P1, c1', rfl, hb⟩; replace hM := hM.newThing hb; clear hb) | ((with_reducible refine (HPB.out _ hM.below).mono ?_); rintro e w1 ⟨P2, c2', rfl, hb⟩; replace hM := hM.newThing hb; clear hb) | (refine lz hM ?_ (hz := zero_rtwo); clear hM; intro g wz hM) | ((with_reducible refine at_build ?_); refine lbrt0 ?_; go_simp; refine lw hM ?_ (hs := twoC_size _ _ _) (h1 := twoC_one _ _ _) (hty := row_rtwo); clear hM; intro wx hM) | ((first | with_reducible refine at_load ?_ | ((with_reducible refine at_load_g ?_ ?_); (· rfl))); first | refine ll hM ?_ | refine lc hM ?_ | refine lp hM ?_) | ((with_reducible refine at_store ?_); first | (refine lw hM ?_; clear hM; intro wx hM) | (refine ls hM ?_; clear hM; intro wx hM) | (refine lt hM ?_; clear hM; intro wx hM)) | ((with_reducible refine at_alloc ?_); refine lz hM ?_; clear hM; intro gx wx hM) | ((with_reducible refine at_box ?_); refine lb hM ?_; clear hM; intro gx wx hM))
    exact bodyPost_ret (results_mem_cell_tmp hM rfl (by rfl) (by repeat (first | exact List.Mem.head _ | apply List.Mem.tail)) row_rtwo (by rfl)) rfl ⟨rfl, hM.below⟩
end Go.Proofs.YtcfojkecmchbdaaDoor
