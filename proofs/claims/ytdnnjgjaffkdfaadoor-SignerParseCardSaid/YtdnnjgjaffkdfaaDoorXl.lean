/- The reference: Parse, any text. The walk of SignerParse. -/
import Derived.Test.YtdnnjgjaffkdfaaDoorSjd
import Derived.Test.YtdnnjgjaffkdfaaDoorSbj
import Derived.Test.YtdnnjgjaffkdfaaDoorSbl
import Derived.Test.YtdnnjgjaffkdfaaDoorXe
namespace Go.Proofs.YtdnnjgjaffkdfaaDoor
open Go Go.RowKit Go.Bul Go.Thg Go.Lin
set_option maxRecDepth 20000 in
set_option maxHeartbeats 8000000 in
theorem rpsig_any (s : ByteArray) (w : World) (hs : s.size ≤ 90000) :
    Calls Tryd.prog 46 #[.string s] w fun e w' => ∃ leaf ch E n c P er, e = .returned (.tuple #[.agg (sigC leaf ch E n c), .int .i64 (er : Nat)]) ∧ PSig (decB (nums s)) (decE (nums s)) leaf ch P er ∧ Becomes [] w (p16T (.slice E n c) P) w' := by
  have hM := Mem.start [] w
  have HD := Lib.hid (fun w => rDecode_any s w hs)
  have hBy := decB_bytes (bytes_of_nums s)
  generalize decB (nums s) = ys at HD hBy ⊢
  generalize decE (nums s) = e0 at HD ⊢
  clear hs
  by_cases h0 : e0 = 0
  · subst h0
    by_cases h3 : ys.length < 3
    · have hPS : Hid (PSig ys 0 0 ch0 [] 4) := Lib.hid ⟨by unfold psE; rw [if_neg (by simp), if_pos h3], fun _ => ⟨rfl, rfl, rfl⟩, fun h => absurd h (by decide)⟩
      have h3' := Lib.hid h3
      clear h3 hBy
      go_enter Tryd.func46, Tryd.ntmps46
      go_upto_region 4 with (first | ((with_reducible refine at_alloc ?_); refine slz hM ?_ (hz := zero_rsg); clear hM; intro g2 w1 hM) | ((with_reducible refine (HD.out _).mono ?_); rintro e w1 ⟨A, n, c, off, rfl, hb⟩; replace hM := hM.newThing hb; clear hb))
      have hn := (bT_reads (hM.thing _ (List.Mem.head _))).2.1
      have n1 : decide (n < 3) = true := decide_eq_true (by have := h3'.out; omega)
      have n2 : decide ((n : Int) < 3) = true := decide_eq_true (by have := h3'.out; omega)
      clear hn
      go_wp2_with (first | ((with_reducible refine at_build ?_); refine lbrsg0 ?_) | ((with_reducible refine at_store ?_); refine slw hM ?_ (hs := sigC_size _ _ _ _ _) (h1 := sigC_one _ _ _ _ _) (hty := row_rsg); clear hM; intro wx hM))
      exact bodyPost_ret (results_mem_cell_tmp hM rfl (by rfl) (by repeat (first | exact List.Mem.head _ | apply List.Mem.tail)) row_rsg (by rfl)) rfl ⟨_, _, _, _, _, _, _, rfl, hPS.out, hbecomes_zero none (KeptBut.of_below hM.below)⟩
    · obtain ⟨cnt, hcnt⟩ : ∃ cnt, cnt = ys.getD 2 0 := ⟨_, rfl⟩
      have hc9 : cnt < 256 := by rw [hcnt, List.getD_eq_getElem?_getD, List.getElem?_eq_getElem (by omega)]; exact hBy _ (List.getElem_mem _)
      have HX2 := Lib.hid (fun (sg so n c : Nat) (w' : World) (h : (bT (.slice (some ⟨sg, so, none⟩) n c) ys).P w') (hn : 2 < n) => show w'.cell? ⟨sg, so + 2, none⟩ = some (.int .u8 (cnt : Nat)) by rw [hcnt]; exact bT_cell h 2 hn)
      have c0 : (0 : Int) ≤ (cnt : Int) := Int.natCast_nonneg _
      have c1 : (cnt : Int) < 256 := by omega
      have H3 := Lib.hid (show 3 ≤ ys.length by omega)
      by_cases h5 : ys.length < 563 + 16 * cnt
      · have hPS : Hid (PSig ys 0 0 ch0 [] 4) := Lib.hid ⟨by unfold psE; rw [if_neg (by simp), if_neg h3, ← hcnt, if_pos h5], fun _ => ⟨rfl, rfl, rfl⟩, fun h => absurd h (by decide)⟩
        have h5' := Lib.hid h5
        clear h3 h5 hBy hcnt hc9
        go_enter Tryd.func46, Tryd.ntmps46
        go_upto_region 4 with (first | ((with_reducible refine at_alloc ?_); refine slz hM ?_ (hz := zero_rsg); clear hM; intro g2 w1 hM) | ((with_reducible refine (HD.out _).mono ?_); rintro e w1 ⟨A, n, c, off, rfl, hb⟩; replace hM := hM.newThing hb; clear hb))
        obtain ⟨g2, hg2⟩ := hM.name1
        subst hg2
        have hn := (bT_reads (hM.thing _ (List.Mem.head _))).2.1
        have hn3 : 2 < n := by have := H3.out; omega
        obtain ⟨sg, so, rfl, _, _⟩ := (bT_reads (hM.thing _ (List.Mem.head _))).1.2 (by omega)
        have HX := Lib.hid (fun w' (h : (bT (.slice (some ⟨sg, so, none⟩) n c) ys).P w') => HX2.out _ _ _ _ _ h hn3)
        have n1 : decide (n < 3) = false := decide_eq_false (by omega)
        have n2 : decide ((n : Int) < 3) = false := decide_eq_false (by omega)
        have n4 : (2 : Int) < (n : Int) := by omega
        have n3 : decide ((n : Int) < 563 + 16 * (cnt : Int)) = true := decide_eq_true (by have := h5'.out; omega)
        clear hn
        go_wp2_with (first | ((first | with_reducible refine at_load ?_ | ((with_reducible refine at_load_g ?_ ?_); (· rfl))); refine lo (HX.out _ (hM.thing _ (List.Mem.head _))) ?_ (hty := one_u8)) | ((with_reducible refine at_build ?_); refine lbrsg0 ?_) | ((with_reducible refine at_store ?_); refine slw hM ?_ (hs := sigC_size _ _ _ _ _) (h1 := sigC_one _ _ _ _ _) (hty := row_rsg); clear hM; intro wx hM))
        exact bodyPost_ret (results_mem_cell_tmp hM rfl (by rfl) (by repeat (first | exact List.Mem.head _ | apply List.Mem.tail)) row_rsg (by rfl)) rfl ⟨_, _, _, _, _, _, _, rfl, hPS.out, hbecomes_zero none (KeptBut.of_below hM.below)⟩
      · by_cases h6 : 563 + 16 * cnt < ys.length
        · have hPS : Hid (PSig ys 0 0 ch0 [] 5) := Lib.hid ⟨by unfold psE; rw [if_neg (by simp), if_neg h3, ← hcnt, if_neg h5, if_pos h6], fun _ => ⟨rfl, rfl, rfl⟩, fun h => absurd h (by decide)⟩
          have h6' := Lib.hid h6
          clear h3 h5 h6 hBy hcnt hc9
          go_enter Tryd.func46, Tryd.ntmps46
          go_upto_region 4 with (first | ((with_reducible refine at_alloc ?_); refine slz hM ?_ (hz := zero_rsg); clear hM; intro g2 w1 hM) | ((with_reducible refine (HD.out _).mono ?_); rintro e w1 ⟨A, n, c, off, rfl, hb⟩; replace hM := hM.newThing hb; clear hb))
          obtain ⟨g2, hg2⟩ := hM.name1
          subst hg2
          have hn := (bT_reads (hM.thing _ (List.Mem.head _))).2.1
          have hn3 : 2 < n := by have := H3.out; omega
          obtain ⟨sg, so, rfl, _, _⟩ := (bT_reads (hM.thing _ (List.Mem.head _))).1.2 (by omega)
          have HX := Lib.hid (fun w' (h : (bT (.slice (some ⟨sg, so, none⟩) n c) ys).P w') => HX2.out _ _ _ _ _ h hn3)
          have n1 : decide (n < 3) = false := decide_eq_false (by omega)
          have n2 : decide ((n : Int) < 3) = false := decide_eq_false (by omega)
          have n4 : (2 : Int) < (n : Int) := by omega
          have n3 : decide ((n : Int) < 563 + 16 * (cnt : Int)) = false := decide_eq_false (by have := h6'.out; omega)
          have n5 : (563 : Int) + 16 * (cnt : Int) < (n : Int) := by have := h6'.out; omega
          clear hn
          go_wp2_with (first | ((first | with_reducible refine at_load ?_ | ((with_reducible refine at_load_g ?_ ?_); (· rfl))); refine lo (HX.out _ (hM.thing _ (List.Mem.head _))) ?_ (hty := one_u8)) | ((with_reducible refine at_build ?_); refine lbrsg0 ?_) | ((with_reducible refine at_store ?_); refine slw hM ?_ (hs := sigC_size _ _ _ _ _) (h1 := sigC_one _ _ _ _ _) (hty := row_rsg); clear hM; intro wx hM))
          exact bodyPost_ret (results_mem_cell_tmp hM rfl (by rfl) (by repeat (first | exact List.Mem.head _ | apply List.Mem.tail)) row_rsg (by rfl)) rfl ⟨_, _, _, _, _, _, _, rfl, hPS.out, hbecomes_zero none (KeptBut.of_below hM.below)⟩
        · exact rpsig_ok s w ys cnt hBy hcnt (by omega) HD.out
  · have hPS : Hid (PSig ys e0 0 ch0 [] e0) := Lib.hid ⟨by unfold psE; rw [if_pos h0], fun _ => ⟨rfl, rfl, rfl⟩, fun h => absurd h h0⟩
    have r1 : ¬ ((e0 : Int) = 0) := by omega
    clear h0 hBy
    go_enter Tryd.func46, Tryd.ntmps46
    go_upto_region 3 with (first | ((with_reducible refine at_alloc ?_); refine slz hM ?_ (hz := zero_rsg); clear hM; intro g2 w1 hM) | ((with_reducible refine (HD.out _).mono ?_); rintro e w1 ⟨A, n, c, off, rfl, hb⟩; replace hM := hM.newThing hb; clear hb))
    go_wp2_with (first | ((with_reducible refine at_build ?_); refine lbrsg0 ?_) | ((with_reducible refine at_store ?_); refine slw hM ?_ (hs := sigC_size _ _ _ _ _) (h1 := sigC_one _ _ _ _ _) (hty := row_rsg); clear hM; intro wx hM))
    exact bodyPost_ret (results_mem_cell_tmp hM rfl (by rfl) (by repeat (first | exact List.Mem.head _ | apply List.Mem.tail)) row_rsg (by rfl)) rfl ⟨_, _, _, _, _, _, _, rfl, hPS.out, hbecomes_zero none (KeptBut.of_below hM.below)⟩
end Go.Proofs.YtdnnjgjaffkdfaaDoor
namespace Go.Lin
open Go Go.Bul
theorem PSig.few {ys : List Nat} {e0 er : Nat} {l : Int} {c : Ch} {P : List Nd} (h : PSig ys e0 l c P er) : P.length ≤ ys.length := by
  obtain ⟨_, h2, h3⟩ := h
  by_cases h0 : er = 0
  · have h4 := congrArg List.length (h3 h0).2.2
    rw [ndBs_length, List.length_drop] at h4
    omega
  · rw [(h2 h0).2.2]
    exact Nat.zero_le _
theorem decB_few {t : List Nat} (hB : Bytes t) : (decB t).length ≤ t.length := by
  unfold decB
  split
  · refine Nat.le_trans (decS_ok (decV t) 0 0 (by decide) (by decide) (filterMap_lt fun x hx => hB x (List.take_subset _ _ hx)) rfl).2.2.2.1 ?_
    unfold decV
    refine Nat.le_trans (List.length_filterMap_le _ _) ?_
    rw [List.length_take]
    omega
  · exact Nat.zero_le _
end Go.Lin
namespace Go.Proofs.YtdnnjgjaffkdfaaDoor
open Go Go.RowKit Go.Bul Go.Thg Go.Lin
theorem held_pub2 {w : World} {o : Oper} {a : Act} {x0 x1 : Operand} {h : Int} {r : Nd} (ho : o.op = .build 30 #[(0, x0), (1, x1)] := by rfl) (h0 : a.eval x0 = .int .i64 h := by rfl) (hx : a.eval x1 = .agg (ndC r) := by rfl) : (execOp a.eval o).run Tryd.prog w = .ok (.value (.agg (pubC h r))) w := by
  unfold execOp
  simp only [ho, List.map_toArray, List.map_cons, List.map_nil, h0, hx, Sem.run_bind, run_pub, Result.andThen_ok, Sem.run_pure]
set_option maxRecDepth 20000 in
set_option maxHeartbeats 8000000 in
theorem spars_any (s : ByteArray) (w : World) (hT : Tab w) (hA : Alp w) :
    Calls Tryd.prog 9 #[.string s] w fun e w' => e = .returned (.bool true) ∧ Below w.heap.size w w' := by
  have hM := Mem.start [] w
  have HK := Lib.hid (fun w' (hb : Below w.heap.size w w') => known_any w' (hT.keep hb) (hA.keep hb))
  by_cases h20 : s.size ≤ 2000
  · have q1 : decide ((s.size : Int) > 2000) = false := decide_eq_false (by omega)
    have q2 : ¬ ((s.size : Int) > 2000) := by omega
    have hfew := decB_few (bytes_of_nums s)
    rw [nums_length] at hfew
    have HP1 := Lib.hid (fun w' (hb : Below w.heap.size w w') => ppub_any s w' (by omega) (hA.keep hb))
    have HP2 := Lib.hid (fun w' => rppub_any s w' (by omega))
    have HS1 := Lib.hid (fun w' (hb : Below w.heap.size w w') => psig_any s w' (by omega) (hA.keep hb))
    have HS2 := Lib.hid (fun w' => rpsig_any s w' (by omega))
    generalize decB (nums s) = ys at HP1 HP2 HS1 HS2 hfew
    generalize decE (nums s) = e0 at HP1 HP2 HS1 HS2
    have hf9 : ys.length ≤ 2000 := by omega
    clear hT hA h20 hfew
    go_enter Tryd.func9, Tryd.ntmps9
    go_wp2_with (first | ((with_reducible refine (HK.out _ hM.below).mono ?_); rintro e w1 ⟨rfl, hb⟩; replace hM := hM.step hb; clear hb))
    refine (HP1.out _ hM.below).mono ?_
    rintro e w1 ⟨h1, r1, er1, rfl, hPa, hb⟩
    replace hM := hM.step hb
    replace hPa := Lib.hid hPa
    clear hb HP1
    go_wp2_with (first | ((with_reducible refine at_alloc ?_); first | (refine slz hM ?_ (hz := zero_pub); clear hM; intro g3 w1 hM) | (refine slz hM ?_ (hz := zero_a16); clear hM; intro g6 w1 hM) | (refine slz hM ?_ (hz := zero_sgn); clear hM; intro g8 w1 hM) | (refine slz hM ?_ (hz := zero_rsg); clear hM; intro g9 w1 hM)) | ((with_reducible refine at_store ?_); first | (refine slw hM ?_ (hs := pubC_size _ _) (h1 := pubC_one _ _) (hty := row_pub); clear hM; intro wx hM) | (refine slw hM ?_ (hs := ndC_size _) (hty := row_a16); clear hM; intro wx hM) | (refine slw hM ?_ (hs := sigC_size _ _ _ _ _) (h1 := sigC_one _ _ _ _ _) (hty := row_sgn); clear hM; intro wx hM) | (refine slw hM ?_ (hs := sigC_size _ _ _ _ _) (h1 := sigC_one _ _ _ _ _) (hty := row_rsg); clear hM; intro wx hM)) | ((with_reducible refine (HP2.out _).mono ?_); rintro e w1 ⟨h2, r2, er2, rfl, hPb, hb⟩; replace hM := hM.step hb; obtain ⟨rfl, rfl, rfl⟩ := PP.one hPa.out hPb; clear hb hPb) | ((with_reducible refine (HS1.out _ hM.below).mono ?_); rintro e w1 ⟨lf, ch, E1, n1, c1, P, er3, rfl, hSa, hb⟩; replace hM := hM.newThing hb; replace hSa := Lib.hid hSa; clear hb))
    refine (HS2.out _).mono ?_
    rintro e w1 ⟨lf2, ch2, E2, n2, c2, P2, er4, rfl, hSb, hb⟩
    replace hM := hM.newThing hb
    obtain ⟨rfl, rfl, rfl, rfl⟩ := PSig.one hSa.out hSb
    have hPl := hSb.few
    clear hb HS2 hSa hSb
    obtain ⟨g8, hg8⟩ := hM.name1
    obtain ⟨g6, hg6⟩ := (hM.subL (List.sublist_cons_self _ _)).name1
    obtain ⟨g3, hg3⟩ := (hM.subL (List.Sublist.cons _ (List.sublist_cons_self _ _))).name1
    subst hg8 hg6 hg3
    go_upto_region 7 with (first | ((with_reducible refine at_alloc ?_); refine slz hM ?_ (hz := zero_rsg); clear hM; intro g9 w1 hM) | ((with_reducible refine at_store ?_); refine slw hM ?_ (hs := sigC_size _ _ _ _ _) (h1 := sigC_one _ _ _ _ _) (hty := row_rsg); clear hM; intro wx hM))
    obtain ⟨g9, hg9⟩ := hM.name1
    subst hg9
    have hn2 : n2 ≤ 1000000 := by have := (p16T_in (hM.thing _ (List.Mem.head _))).len; omega
    have hn1 : n1 ≤ 1000000 := by have := (p16T_in (hM.thing _ (List.Mem.tail _ (List.Mem.head _)))).len; omega
    have HB := Lib.hid (fun w' (hr : NIn w' E1 n1 P) => lback_any lf ch E1 n1 c1 P w' hr hn1)
    have HSM := Lib.hid (fun B c' w' (hr : NIn w' B n1 P) (hr2 : NIn w' E2 n2 P) => rsame_any lf lf ch ch B E2 n1 c' n2 c2 P P w' hr hr2 hn1 hn2)
    simp only [decide_true, and_self] at HSM
    have qp := eq_pub h1 h1 r1 r1
    rw [show (h1 == h1 && decide (r1 = r1)) = true by simp] at qp
    clear hPl hn1 hn2 HK HP2
    generalize sigC lf ch E1 n1 c1 = Y1 at hM HB
    generalize sigC lf ch E2 n2 c2 = Y2 at hM HSM
    refine wp_region_allHM hM (HeldM [⟨g9, 26, 562, Y2⟩, ⟨g8, 31, 562, Y1⟩, ⟨g6, 22, 16, ndC r1⟩, ⟨g3, 30, 17, pubC h1 r1⟩]) (by kernel_rfl) ?_
    clear hM
    intro wd hM
    have hS := HeldM.of (hM.subL (L' := [⟨g9, 26, 562, Y2⟩, ⟨g8, 31, 562, Y1⟩, ⟨g6, 22, 16, ndC r1⟩, ⟨g3, 30, 17, pubC h1 r1⟩]) (List.Sublist.refl _))
    refine wpAllH_takes [0, 1, 2, 3, 4, 5, 6, 7, 8, 9, 10, 11, 12, 13, 14, 15, 16, 18] (by kernel_rfl) (fun _ _ _ _ _ h => h) hS (by kernel_rfl) ?_
    simp only [pickOps, List.filterMap_cons, List.filterMap_nil, List.getElem?_cons_zero, List.getElem?_cons_succ]
    repeat ((with_reducible apply wpHeld_stepG); (· rfl); (· (intro w hSw; first | (go_simp; rfl) | ((first | exact held_pub2 | (obtain ⟨_, _, _, hM'⟩ := hSw; first | exact yields_load (C := fun _ => True) (sql hM' (hty := row_rsg)) rfl | exact yields_load (C := fun _ => True) (sql hM' (hty := row_sgn)) rfl | exact yields_load (C := fun _ => True) (sql hM' (hty := row_a16)) rfl | exact yields_load (C := fun _ => True) (sql hM' (hty := row_pub)) rfl))))); intro K hK; go_simp; (with_reducible refine hK _ ?_); clear hK K)
    refine wpHeld_nil ?_
    refine wpAllH_one 17 rfl (by kernel_rfl) ?_
    go_wp2_with fail
    refine (HB.out _ (p16T_in (hM.thing _ (List.Mem.tail _ (List.Mem.head _))))).mono ?_
    rintro e w1 ⟨B3, c3, rfl, hb⟩
    replace hM := hM.newThing hb
    clear hb hS
    have hS := HeldM.of (hM.subL (L' := [⟨g9, 26, 562, Y2⟩, ⟨g8, 31, 562, Y1⟩, ⟨g6, 22, 16, ndC r1⟩, ⟨g3, 30, 17, pubC h1 r1⟩]) (List.Sublist.refl _))
    go_wp2_with fail
    refine then_normal ⟨hS, ?_⟩
    refine wpAllH_one 19 rfl (by kernel_rfl) ?_
    go_wp2_with fail
    refine (HSM.out _ _ _ (p16T_in (hM.thing _ (List.Mem.head _))) (p16T_in (hM.thing _ (List.Mem.tail _ (List.Mem.head _))))).mono ?_
    rintro e w1 ⟨rfl, hb⟩
    replace hM := hM.step hb
    clear hb hS
    have hS := HeldM.of (hM.subL (L' := [⟨g9, 26, 562, Y2⟩, ⟨g8, 31, 562, Y1⟩, ⟨g6, 22, 16, ndC r1⟩, ⟨g3, 30, 17, pubC h1 r1⟩]) (List.Sublist.refl _))
    go_wp2_with fail
    refine then_normal ⟨hS, ?_⟩
    refine wpAllH_takes [20, 21] (by kernel_rfl) (fun _ _ _ _ _ h => h) hS (by kernel_rfl) ?_
    simp only [pickOps, List.filterMap_cons, List.filterMap_nil, List.getElem?_cons_zero, List.getElem?_cons_succ]
    repeat ((with_reducible apply wpHeld_stepG); (· rfl); (· (intro w hSw; first | (go_simp; rfl) | (fail))); intro K hK; go_simp; (with_reducible refine hK _ ?_); clear hK K)
    refine wpHeld_nil ?_
    refine wpAllH_done (by kernel_rfl) ?_
    go_wp2_with fail
    go_ret
    exact ⟨rfl, hM.below⟩
  · have q1 : decide ((s.size : Int) > 2000) = true := decide_eq_true (by omega)
    have q2 : (s.size : Int) > 2000 := by omega
    clear hT hA h20
    go_enter Tryd.func9, Tryd.ntmps9
    go_wp2_with (first | ((with_reducible refine (HK.out _ hM.below).mono ?_); rintro e w1 ⟨rfl, hb⟩; replace hM := hM.step hb; clear hb))
    go_ret
    exact ⟨rfl, hM.below⟩
end Go.Proofs.YtdnnjgjaffkdfaaDoor
