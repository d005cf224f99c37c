/- The reference: Sign. -/
import Derived.Test.YtdnnjgjaffkdfaaDoorXb
import Derived.Test.YtdnnjgjaffkdfaaDoorWa
namespace Go.Bul
open Go
theorem splice_in (hd : Value) (A B X : List Value) (i : Nat) (h : i + X.length ≤ A.length) : splice (hd :: (A ++ B)) (1 + i) X = hd :: (splice A i X ++ B) := by
  unfold splice
  rw [Nat.add_comm 1 i, List.take_succ_cons, List.take_append_of_le_length (by omega), show i + 1 + X.length = (i + X.length) + 1 by omega, List.drop_succ_cons, List.drop_append_of_le_length h]
  simp
/-- Two ways through a region that end alike. -/
theorem join2 {R P : Nat → World → Prop} {G : Prop} (h1 : (∀ g w, R g w → P g w) → G) (h2 : ∀ g w, R g w → P g w) : G := h1 h2
end Go.Bul
namespace Go.Lin
open Go Go.Bul
/-- The first chains, the rest not yet set. -/
def chP (ch : Ch) (j : Nat) (hj : j ≤ 35) : Ch := ⟨ch.val.take (16 * j) ++ Go.Thg.zeros (560 - 16 * j), by simp [ch.len, Go.Thg.zeros]; omega, by
  intro x hx
  rcases List.mem_append.1 hx with hx | hx
  · exact ch.byt x (List.mem_of_mem_take hx)
  · have := List.eq_of_mem_replicate hx; omega⟩
theorem chP_0 (ch : Ch) : chP ch 0 (by omega) = ch0 := Ch.ext' (by simp [chP, ch0])
theorem chP_35 (ch : Ch) : chP ch 35 (by omega) = ch := Ch.ext' (by
  show ch.val.take (16 * 35) ++ Go.Thg.zeros (560 - 16 * 35) = ch.val
  rw [List.take_of_length_le (by have := ch.len; omega)]
  simp [Go.Thg.zeros])
theorem sigC_put (leaf : Int) (ch : Ch) (j : Nat) (hj : j < 35) : (splice (sigC leaf (chP ch j (by omega)) none 0 0).toList (1 + j * 16) (ndC (chN ch j hj)).toList).toArray = sigC leaf (chP ch (j + 1) (by omega)) none 0 0 := by
  have h := congrArg Array.toList (chTo_put ch j hj)
  have e1 : ∀ (i : Nat) (hi : i ≤ 35), (chTo ch i).toList = vals .u8 (chP ch i hi).val := fun i hi => by simp [chTo, chP, cellsOf]
  rw [e1 j (by omega), e1 (j + 1) (by omega)] at h
  have h : splice (vals .u8 (chP ch j (by omega)).val) (j * 16) (ndC (chN ch j hj)).toList = vals .u8 (chP ch (j + 1) (by omega)).val := h
  have hX : (ndC (chN ch j hj)).toList.length = 16 := by rw [Array.length_toList, ndC_size]
  have h2 := splice_in (.int .i64 leaf) (vals .u8 (chP ch j (by omega)).val) [Value.slice none 0 0] (ndC (chN ch j hj)).toList (j * 16) (by rw [hX, ch_len]; omega)
  rw [h] at h2
  exact congrArg List.toArray h2
theorem chC_piece (ch : Ch) (j : Nat) (hj : j < 35) : (chC ch).extract (j * 16) (j * 16 + 16) = ndC (chN ch j hj) := Hp.cells_piece .u8 ch.val j (j * 16) (by omega)
end Go.Lin
namespace Go.Proofs.YtdnnjgjaffkdfaaDoor
open Go Go.RowKit Go.Bul Go.Thg Go.Lin
theorem run_rsgh (h : Int) (w : World) : (Instr.build 26 #[(0, .int .i64 h)]).run Tryd.prog w = .ok (.agg (sigC h ch0 none 0 0)) w := by
  refine run_build_struct (places := sgPlaces) (show Tryd.prog.underlying 26 = some (.struct (Tryd.prog.fieldsOf 26)) by kernel_rfl) (show (Tryd.prog.info? 26).map (·.zero) = some (some (.agg (sigC 0 ch0 none 0 0))) by kernel_rfl) (fun w => by kernel_rfl) ?_ w
  show Instr.fill _ (sigC 0 ch0 none 0 0) [(0, .int .i64 h)] = _
  rw [fill_cons (size := 1) rfl rfl (by rw [sigC_size]; omega)]
  rfl
section
variable {w : World} {ops : Array Oper} {rest : List Oper} {o : Oper} {a : Act} {Q : Exit → Act → World → Prop} {x0 : Operand} {h : Int}
theorem lbrsgh (hk : wpList Tryd.prog ops Q rest (a.put o.dst (.agg (sigC h ch0 none 0 0))) w) (hgd : o.guard = none := by rfl) (ho : o.op = .build 26 #[(0, x0)] := by rfl) (h0 : a.eval x0 = .int .i64 h := by rfl) : wpList Tryd.prog ops Q (o :: rest) a w :=
  wpList_build_run hgd _ _ ho _ (by simp only [List.map_toArray, List.map_cons, List.map_nil, h0]) _ (run_rsgh h w) hk
end
theorem rsplitN (d : Nd) (w : World) : Calls Tryd.prog 64 #[.agg (ndC d)] w fun e w' => e = .returned (.agg (cellsOf .i64 (split d.val))) ∧ Below w.heap.size w w' := Once.rsplit_any d.val w d.len d.byt
theorem rvalsN (s : Sd) (k : Nat) (d : Nd) (w : World) (hk : k ≤ 65535) : Calls Tryd.prog 63 #[.agg (cellsOf .u8 s.val), .int .i64 (k : Nat), .agg (cellsOf .i64 (split d.val))] w fun e w' => e = .returned (.agg (chC (sgCh s k d))) ∧ Below w.heap.size w w' :=
  Once.values_any s.val (split d.val) k (k : Nat) w s.len s.byt (split_length _) (fun i => split_le d.byt i) hk rfl
set_option maxRecDepth 20000 in
set_option maxHeartbeats 8000000 in
theorem rsign_any (s : Sd) (h k : Nat) (d : Nd) (w : World) (h1 : 1 ≤ h) (hh : h ≤ 8) (hk : k < 2 ^ h) :
    Calls Tryd.prog 29 #[.agg (cellsOf .u8 s.val), .int .i64 (h : Nat), .int .i64 (k : Nat), .agg (ndC d)] w fun e w' => ∃ B c', e = .returned (.agg (sigC (k : Nat) (sgCh s k d) B h c')) ∧ Becomes [] w (p16T (.slice B h c') (sibsF (lvsN s (2 ^ h)) k h)) w' := by
  have hM := Mem.start [] w
  have hp : 2 ^ h ≤ 2 ^ 8 := Nat.pow_le_pow_right (by decide) hh
  have HS := Lib.hid (show (cellsOf .u8 s.val).size = 32 by rw [cellsOf_size, s.len])
  have HLV := Lib.hid (fun w => rleaves_any s h w hh)
  have hlv := lvsN_length s (2 ^ h)
  have hpe : pathF (lvsN s (2 ^ h)) (k : Int) = (sibsF (lvsN s (2 ^ h)) k h, 0) := by
    obtain ⟨hc, hlog⟩ := chkE_pow (show h ≤ 10 by omega) hlv
    unfold pathF
    rw [if_neg (by rw [hc]; decide), if_neg (by omega), hlog]
    simp
  have HP := Lib.hid (fun A c w' (hr : NIn w' A (2 ^ h) (lvsN s (2 ^ h))) => rpath_any A (2 ^ h) c (lvsN s (2 ^ h)) (k : Nat) w' hr (by omega))
  rw [hpe] at HP
  simp only [sibsF_length] at HP
  have HSP := Lib.hid (fun w => rsplitN d w)
  have HV := Lib.hid (fun w => rvalsN s k d w (by omega))
  have hsl := sibsF_length (lvsN s (2 ^ h)) k h
  have HPL := Lib.hid hsl
  generalize sgCh s k d = ch at HV ⊢
  generalize sibsF (lvsN s (2 ^ h)) k h = P at HP HPL ⊢
  generalize lvsN s (2 ^ h) = LV at HLV HP
  generalize cellsOf .u8 s.val = SC at HS HLV HV ⊢
  generalize split d.val = SP at HSP HV
  have q0 : (0 : Int) ≤ (h : Int) := Int.natCast_nonneg _
  have q1 : (h : Int) ≤ 8 := by omega
  clear hk hp hlv hpe hsl h1 hh
  generalize 2 ^ h = N at HLV HP
  go_enter Tryd.func29, Tryd.ntmps29
  go_upto_region 2 with (first | ((with_reducible refine at_box ?_); first | (refine slb hM ?_ (hty := row_a32) (hn := HS.out); clear hM; intro g4 w1 hM) | (refine slb hM ?_ (hty := row_a16) (hn := ndC_size _); clear hM; intro g7 w1 hM)) | ((with_reducible refine at_build ?_); refine lbrsgh ?_) | ((with_reducible refine at_alloc ?_); refine slz hM ?_ (hz := zero_rsg); clear hM; intro g8 w1 hM) | ((with_reducible refine at_store ?_); refine slw hM ?_ (hs := sigC_size _ _ _ _ _) (h1 := sigC_one _ _ _ _ _) (hty := row_rsg); clear hM; intro wx hM))
  obtain ⟨g9, hg9⟩ := hM.name1
  obtain ⟨g8, hg8⟩ := (hM.subL (List.sublist_cons_self _ _)).name1
  obtain ⟨g7, hg7⟩ := (hM.subL (List.Sublist.cons _ (List.sublist_cons_self _ _))).name1
  obtain ⟨g4, hg4⟩ := (hM.subL (List.Sublist.cons _ (List.Sublist.cons _ (List.sublist_cons_self _ _)))).name1
  subst hg9 hg8 hg7 hg4
  revert hM
  apply join2 (R := fun g10 wz => Mem [] w [⟨g10, 109, 560, chC ch⟩, ⟨g9, 26, 562, sigC (k : Nat) ch0 none 0 0⟩, ⟨g8, 26, 562, sigC 0 ch0 none 0 0⟩, ⟨g7, 22, 16, ndC d⟩, ⟨g4, 44, 32, SC⟩] [] wz)
  · intro hK hM
    refine wp_region_allHM hM (HeldM [⟨g7, 22, 16, ndC d⟩, ⟨g4, 44, 32, SC⟩]) (by kernel_rfl) ?_
    clear hM
    intro wd hM
    have hS := HeldM.of (hM.subL (L' := [⟨g7, 22, 16, ndC d⟩, ⟨g4, 44, 32, SC⟩]) (List.Sublist.cons _ (List.sublist_cons_self _ _)))
    refine wpAllH_takes [1, 0, 2] (by kernel_rfl) (fun _ _ _ _ _ h => h) hS (by kernel_rfl) ?_
    simp only [pickOps, List.filterMap_cons, List.filterMap_nil, List.getElem?_cons_zero, List.getElem?_cons_succ]
    repeat ((with_reducible apply wpHeld_step); (· rfl); (· (intro w hSw; first | (go_simp; rfl) | ((obtain ⟨_, _, _, hM'⟩ := hSw; first | exact yields_load (C := fun _ => True) (sql hM' (hty := row_a32)) rfl | exact yields_load (C := fun _ => True) (sql hM' (hty := row_a16)) rfl)))); intro K hK; go_simp; (with_reducible refine hK _ ?_); clear hK K)
    refine wpHeld_nil ?_
    refine wpAllH_two 3 5 rfl rfl (by kernel_rfl) ?_ ?_
    · go_wp2_with fail
      refine (HSP.out _).mono ?_
      rintro e w1 ⟨rfl, hb⟩
      replace hM := hM.step hb
      clear hb hS
      have hS := HeldM.of (hM.subL (L' := [⟨g7, 22, 16, ndC d⟩, ⟨g4, 44, 32, SC⟩]) (List.Sublist.cons _ (List.sublist_cons_self _ _)))
      go_wp2_with fail
      refine then_normal ⟨hS, ?_⟩
      refine wpAllH_two 4 5 rfl rfl (by kernel_rfl) ?_ ?_
      · go_wp2_with fail
        refine (HV.out _).mono ?_
        rintro e w1 ⟨rfl, hb⟩
        replace hM := hM.step hb
        clear hb hS
        have hS := HeldM.of (hM.subL (L' := [⟨g7, 22, 16, ndC d⟩, ⟨g4, 44, 32, SC⟩]) (List.Sublist.cons _ (List.sublist_cons_self _ _)))
        go_wp2_with fail
        refine then_normal ⟨hS, ?_⟩
        refine wpAllH_one 5 rfl (by kernel_rfl) ?_
        refine slz hM ?_ (hz := zero_v35)
        clear hM hS
        intro g10 wy hM
        have hS := HeldM.of (hM.subL (L' := [⟨g7, 22, 16, ndC d⟩, ⟨g4, 44, 32, SC⟩]) (List.Sublist.cons _ (List.Sublist.cons _ (List.sublist_cons_self _ _))))
        refine wpList_then ⟨hS, ?_⟩
        refine wpAllH_one 6 rfl (by kernel_rfl) ?_
        refine slw hM ?_ (hs := chC_size _) (hty := row_v35)
        clear hM hS
        intro wz hM
        have hS := HeldM.of (hM.subL (L' := [⟨g7, 22, 16, ndC d⟩, ⟨g4, 44, 32, SC⟩]) (List.Sublist.cons _ (List.Sublist.cons _ (List.sublist_cons_self _ _))))
        refine wpList_then ⟨hS, ?_⟩
        refine wpAllH_done (by kernel_rfl) ?_
        go_simp
        exact hK _ _ hM
      · refine slz hM ?_ (hz := zero_v35)
        clear hM hS
        intro g10 wy hM
        have hS := HeldM.of (hM.subL (L' := [⟨g7, 22, 16, ndC d⟩, ⟨g4, 44, 32, SC⟩]) (List.Sublist.cons _ (List.Sublist.cons _ (List.sublist_cons_self _ _))))
        refine wpList_then ⟨hS, ?_⟩
        refine wpAllH_one 4 rfl (by kernel_rfl) ?_
        go_wp2_with fail
        refine (HV.out _).mono ?_
        rintro e w1 ⟨rfl, hb⟩
        replace hM := hM.step hb
        clear hb hS
        have hS := HeldM.of (hM.subL (L' := [⟨g7, 22, 16, ndC d⟩, ⟨g4, 44, 32, SC⟩]) (List.Sublist.cons _ (List.Sublist.cons _ (List.sublist_cons_self _ _))))
        go_wp2_with fail
        refine then_normal ⟨hS, ?_⟩
        refine wpAllH_one 6 rfl (by kernel_rfl) ?_
        refine slw hM ?_ (hs := chC_size _) (hty := row_v35)
        clear hM hS
        intro wz hM
        have hS := HeldM.of (hM.subL (L' := [⟨g7, 22, 16, ndC d⟩, ⟨g4, 44, 32, SC⟩]) (List.Sublist.cons _ (List.Sublist.cons _ (List.sublist_cons_self _ _))))
        refine wpList_then ⟨hS, ?_⟩
        refine wpAllH_done (by kernel_rfl) ?_
        go_simp
        exact hK _ _ hM
    · refine slz hM ?_ (hz := zero_v35)
      clear hM hS
      intro g10 wy hM
      have hS := HeldM.of (hM.subL (L' := [⟨g7, 22, 16, ndC d⟩, ⟨g4, 44, 32, SC⟩]) (List.Sublist.cons _ (List.Sublist.cons _ (List.sublist_cons_self _ _))))
      refine wpList_then ⟨hS, ?_⟩
      refine wpAllH_one 3 rfl (by kernel_rfl) ?_
      go_wp2_with fail
      refine (HSP.out _).mono ?_
      rintro e w1 ⟨rfl, hb⟩
      replace hM := hM.step hb
      clear hb hS
      have hS := HeldM.of (hM.subL (L' := [⟨g7, 22, 16, ndC d⟩, ⟨g4, 44, 32, SC⟩]) (List.Sublist.cons _ (List.Sublist.cons _ (List.sublist_cons_self _ _))))
      go_wp2_with fail
      refine then_normal ⟨hS, ?_⟩
      refine wpAllH_one 4 rfl (by kernel_rfl) ?_
      go_wp2_with fail
      refine (HV.out _).mono ?_
      rintro e w1 ⟨rfl, hb⟩
      replace hM := hM.step hb
      clear hb hS
      have hS := HeldM.of (hM.subL (L' := [⟨g7, 22, 16, ndC d⟩, ⟨g4, 44, 32, SC⟩]) (List.Sublist.cons _ (List.Sublist.cons _ (List.sublist_cons_self _ _))))
      go_wp2_with fail
      refine then_normal ⟨hS, ?_⟩
      refine wpAllH_one 6 rfl (by kernel_rfl) ?_
      refine slw hM ?_ (hs := chC_size _) (hty := row_v35)
      clear hM hS
      intro wz hM
      have hS := HeldM.of (hM.subL (L' := [⟨g7, 22, 16, ndC d⟩, ⟨g4, 44, 32, SC⟩]) (List.Sublist.cons _ (List.Sublist.cons _ (List.sublist_cons_self _ _))))
      refine wpList_then ⟨hS, ?_⟩
      refine wpAllH_done (by kernel_rfl) ?_
      go_simp
      exact hK _ _ hM
  · intro g10 wz hM
    have M0 := Lib.hid hM
    clear hM
    go_wp2_with fail
    go_loopw [11] (fun i wr => ∃ (j : Nat) (hj : j ≤ 35), i = .int .i64 (j : Nat) ∧ Mem [] w [⟨g10, 109, 560, chC ch⟩, ⟨g9, 26, 562, sigC (k : Nat) (chP ch j hj) none 0 0⟩, ⟨g8, 26, 562, sigC 0 ch0 none 0 0⟩, ⟨g7, 22, 16, ndC d⟩, ⟨g4, 44, 32, SC⟩] [] wr) (fun i _ => 35 - (intOf i).toNat)
    case atStart => exact ⟨0, by omega, rfl, by rw [chP_0]; exact M0.out⟩
    case round =>
      clear M0
      obtain ⟨j, hj, rfl, hM⟩ := hrel
      by_cases hlt : j < 35
      · have HPJ := Lib.hid (chC_piece ch j hlt)
        have HPP := Lib.hid (sigC_put (k : Nat) ch j hlt)
        have q2 : (0 : Int) ≤ (j : Int) := Int.natCast_nonneg _
        have q3 : (j : Int) < 35 := by omega
        generalize chN ch j hlt = y at HPJ HPP
        generalize hE2 : sigC (k : Nat) (chP ch (j + 1) (by omega)) none 0 0 = E2 at HPP
        replace hE2 := Lib.hid hE2
        generalize sigC (k : Nat) (chP ch j hj) none 0 0 = E1 at HPP hM
        go_wp2_with (first | ((with_reducible refine at_load ?_); refine slp hM ?_ (hX := HPJ.out) (hty := row_rva)) | ((with_reducible refine at_store ?_); refine slt hM ?_ (hs := ndC_size _) (hty := row_a16) (hX := HPP.out); clear hM; intro wx hM))
        exact ⟨⟨j + 1, by omega, by go_num, by rw [hE2.out]; exact hM⟩, by simp [intOf]; omega⟩
      · obtain rfl : j = 35 := by omega
        rw [chP_35] at hM
        clear hlt
        go_wp2_with (first | ((with_reducible refine at_load ?_); refine sll hM ?_ (hty := row_a32)) | ((with_reducible refine (HLV.out _).mono ?_); rintro e w1 ⟨A, c, rfl, hb⟩; replace hM := hM.newThing hb; clear hb) | ((with_reducible refine (HP.out _ _ _ (rnT_in (hM.thing _ (List.Mem.head _)))).mono ?_); rintro e w1 ⟨A2, c2, rfl, hb⟩; replace hM := hM.newThing hb; clear hb))
        replace hM := hM.subL (L' := [⟨g9, 26, 562, sigC (k : Nat) ch none 0 0⟩, ⟨g8, 26, 562, sigC 0 ch0 none 0 0⟩]) (List.Sublist.cons _ (List.Sublist.cons_cons _ (List.Sublist.cons_cons _ (List.nil_sublist _))))
        have M0 := Lib.hid (hM.newThing (hbecomes_zero none (KeptBut.refl _ _)))
        clear hM
        go_loopw [14] (fun i wr => ∃ (j : Nat) (E : Option Addr) (e2 : Nat), j ≤ h ∧ i = .int .i64 (j : Nat) ∧ Mem [] w [⟨g9, 26, 562, sigC (k : Nat) ch E j e2⟩, ⟨g8, 26, 562, sigC 0 ch0 none 0 0⟩] [p16T (.slice E j e2) (P.take j), rnT (.slice A2 h c2) P, rnT (.slice A N c) LV] wr) (fun i _ => h - (intOf i).toNat)
        case atStart => exact ⟨0, none, 0, by omega, rfl, M0.out⟩
        case round =>
          clear M0
          obtain ⟨j, E, e2, hj, rfl, hM⟩ := hrel
          by_cases hlt : j < h
          · have hjl : j < P.length := by have := HPL.out; omega
            obtain ⟨go, oo, rfl, _, h5⟩ := (rnT_in (hM.thing _ (List.Mem.tail _ (List.Mem.head _)))).row j hjl
            have HROW := Lib.hid (fun w' (hr : (rnT (.slice (some ⟨go, oo, none⟩) h c2) P).P w') => NIn.cell (rnT_in hr) j hjl)
            have htk : P.take (j + 1) = P.take j ++ [P[j]] := List.take_succ_eq_append_getElem hjl
            have hcl : (P.take j).length = j := by rw [List.length_take]; omega
            generalize P[j] = x at HROW htk
            generalize P.take j = cur at htk hcl hM
            have h63 : cur.length + [x].length ≤ 1000000000 := by simp; omega
            have HTK := Lib.hid htk
            have HCL := Lib.hid hcl
            have HCP := Lib.hid (sigC_p (k : Nat) ch E j e2)
            have HSE := Lib.hid (fun B m d => sigC_setp (k : Nat) ch E B j e2 m d)
            have q2 : (0 : Int) ≤ (j : Int) := Int.natCast_nonneg _
            have q3 : (j : Int) < (h : Int) := by omega
            generalize sigC (k : Nat) ch E j e2 = Y at hM HCP HSE
            clear h5 htk hcl hjl
            go_upto_region 11 with fail
            refine wp_region_allTM hM 9 (fun w' => HeldM [⟨g9, 26, 562, Y⟩] w' ∧ (rnT (.slice (some ⟨go, oo, none⟩) h c2) P).P w') (by kernel_rfl) ?_
            clear hM
            intro wd hM
            have hS := And.intro (HeldM.of (hM.subL (L' := [⟨g9, 26, 562, Y⟩]) (List.Sublist.cons_cons _ (List.nil_sublist _)))) (hM.thing _ (List.Mem.tail _ (List.Mem.head _)))
            refine wpAllT_takes [0, 2, 3, 4, 1, 5] (by kernel_rfl) (fun _ _ _ _ _ h => h) hS (by kernel_rfl) ?_
            simp only [pickOps, List.filterMap_cons, List.filterMap_nil, List.getElem?_cons_zero, List.getElem?_cons_succ]
            repeat ((with_reducible apply wpHeld_step); (· rfl); (· (intro wq hSw; first | (go_simp; rfl) | ((obtain ⟨⟨_, _, _, hM'⟩, hr'⟩ := hSw; first | exact yields_load (C := fun _ => True) (sqc hM' (hv := HCP.out)) rfl | exact yields_load (C := fun _ => True) (qr (HROW.out _ hr') (hty := row_n)) rfl)))); intro K hK; go_simp; (with_reducible refine hK _ ?_); clear hK K)
            refine wpHeld_nil ?_
            refine wpAllT_one 6 rfl (by kernel_rfl) ?_
            refine lb16 hM ?_
            clear hM hS
            intro g1 w5 hM
            have hS := And.intro (HeldM.of (hM.subL (L' := [⟨g9, 26, 562, Y⟩]) (List.Sublist.cons _ (List.Sublist.cons_cons _ (List.nil_sublist _))))) (hM.thing _ (List.Mem.tail _ (List.Mem.head _)))
            refine wpList_then ⟨.inr hS, ?_⟩
            go_simp
            refine wpAllT_one 7 rfl (by kernel_rfl) ?_
            refine la16 (src_16 hM (List.Mem.head _)) hM h63 ?_
            clear hM hS
            intro A3 N3 c3 wx hN3 hM
            have hS := And.intro (HeldM.of (hM.subL (L' := [⟨g9, 26, 562, Y⟩]) (List.Sublist.cons _ (List.Sublist.cons_cons _ (List.nil_sublist _))))) (hM.thing _ (List.Mem.tail _ (List.Mem.head _)))
            refine wpList_then ⟨.inr hS, ?_⟩
            go_simp
            refine wpAllT_takes [8] (by kernel_rfl) (fun _ _ _ _ _ h => h) hS (by kernel_rfl) ?_
            simp only [pickOps, List.filterMap_cons, List.filterMap_nil, List.getElem?_cons_zero, List.getElem?_cons_succ]
            repeat ((with_reducible apply wpHeld_step); (· rfl); (· (intro wq hSw; first | (go_simp; rfl) | (fail))); intro K hK; go_simp; (with_reducible refine hK _ ?_); clear hK K)
            refine wpHeld_nil ?_
            refine wpAllT_one 9 rfl (by kernel_rfl) ?_
            refine sls hM ?_ (hX := HSE.out _ _ _)
            clear hM hS
            intro wx hM
            refine wpList_then ⟨.inl (by kernel_rfl), wpAllT_drop (by kernel_rfl) ?_⟩
            refine wpAll_done (by kernel_rfl) ?_
            go_wp2_with fail
            obtain rfl : N3 = j + 1 := by have := hN3.out; have := HCL.out; simp at *; omega
            exact ⟨⟨j + 1, A3, c3, by omega, by go_num, by rw [HTK.out]; exact hM.subL (List.sublist_cons_self _ _)⟩, by simp [intOf]; omega⟩
          · obtain rfl : j = h := by omega
            rw [List.take_of_length_le (by have := HPL.out; omega)] at hM
            clear hlt hj
            go_wp2_with (first | ((with_reducible refine at_load ?_); refine sll hM ?_ (hty := row_rsg)) | ((with_reducible refine at_store ?_); refine slw hM ?_ (hs := sigC_size _ _ _ _ _) (h1 := sigC_one _ _ _ _ _) (hty := row_rsg); clear hM; intro wx hM))
            have hb := (hM.subL (List.nil_sublist _)).becomes (List.Mem.head _)
            exact bodyPost_ret (results_mem_cell hM rfl (by rfl) (by repeat (first | exact List.Mem.head _ | apply List.Mem.tail)) row_rsg) rfl ⟨E, e2, rfl, hb⟩
end Go.Proofs.YtdnnjgjaffkdfaaDoor
