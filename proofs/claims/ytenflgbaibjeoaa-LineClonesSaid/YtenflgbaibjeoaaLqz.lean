/- LineOperations: the walk. -/
import Derived.Test.YtenflgbaibjeoaaMni
import Derived.Test.YtenflgbaibjeoaaLnw
namespace Go.Proofs.Ytenflgbaibjeoaa
open Go Go.RowKit Go.Bul Go.Thg Go.Lin
theorem held_row {w : World} {o : Oper} {a : Act} {ty : TypeId} {x : Operand} {g i m : Nat} {X : Array Value} (hX : ∀ j u, X[j]? = some u → w.cell? ⟨g, i + j, none⟩ = some u) (ho : o.op = .load ty x := by rfl) (hx : a.eval x = .pointer (some ⟨g, i, none⟩) := by rfl) (hty : RowTy Try.prog ty m := by first | exact row_cfg | exact row_win | exact row_line | exact row_end | exact row_ends | exact row_pkt | exact row_C | exact row_W | exact row_L | exact row_End | exact row_Ends | exact row_B | exact row_op | exact row_str2 | exact row_b3) (hm : X.size = m := by rfl) : (execOp a.eval o).run Try.prog w = .ok (.value (.agg X)) w := by
  obtain ⟨d, hu, hd, hi⟩ := hty.ex
  have hl : (loadCells ⟨g, i, none⟩ X.toList.length).run Try.prog w = .ok X.toList.toArray w :=
    run_loadCells_list (P := Try.prog) w ⟨g, i, none⟩ X.toList (fun j u hu => by rw [addr_at]; exact hX j u (by simpa using hu))
  rw [Array.length_toList, hm] at hl
  simp only [Array.toArray_toList] at hl
  have hrun : (loadVar ty ⟨g, i, none⟩).run Try.prog w = .ok (.agg X) w := by simp [loadVar, Sem.run_bind, run_isAgg hu hd, Go.Bul.run_sizeOf hi, hl]
  unfold execOp
  simp only [ho, hx, Instr.loadAt, Instr.sureAddr, Sem.run_bind, Sem.run_pure, Result.andThen_ok, hrun]
theorem afp_sfp {w : World} {e : TypeId} {size n c m : Nat} {A : Option Addr} {xs : List Value} (h : OffRow w e size (.slice A n c) m xs) : ∀ g ∈ aFp A m, g ∈ sFp (.slice A n c) := by
  intro g hg
  obtain ⟨_, A', c', he, h2, h3, h4⟩ := h
  have e1 : A = A' := by injection he
  have e2 : c = c' := by injection he
  subst e1 e2
  rcases Nat.eq_zero_or_pos m with h0 | h0
  · rw [h0, aFp_zero] at hg; cases hg
  · obtain ⟨g', off, cur, rfl, _⟩ := h4 (by omega)
    rw [aFp_pos h0] at hg
    rw [sFp_pos (by omega)]
    exact hg
section
variable {w w0 : World} {G : List Nat} {L : List Ent} {R : List Thing} {F : Thing → List Thing}
/-- The windows' row becomes what the new line reads. -/
theorem turn_new {us : List Win} {A B C : Option Addr} {c c2 c0 c1 : Nat} {T : RL} (hM : Mem G w0 L R w) (hu : UpdR (wT (.slice A us.length c) us) R F) (e1 : T.ws = us) (e2 : T.y0 = []) (e3 : T.y1 = []) : Mem G w0 L (F (refT T ⟨A, c2, B, c0, C, c1⟩)) w := by
  have hin := mem_of_updR hu
  refine hM.turn hu ⟨⟨?_, ?_, ?_⟩, KeptBut.refl _ _, fun g hg => ?_⟩
  · rw [e1]; exact wT_in hM hin
  · rw [e2]; exact Reads.nil _ _ _
  · rw [e3]; exact Reads.nil _ _ _
  · have hg2 : g ∈ rFp T ⟨A, c2, B, c0, C, c1⟩ := hg
    rw [mem_rFp, e1, e2, e3] at hg2
    rcases hg2 with hg2 | hg2 | hg2
    · exact .inl (afp_sfp (hM.thing _ hin) g hg2)
    · rw [List.length_nil, aFp_zero] at hg2; cases hg2
    · rw [List.length_nil, aFp_zero] at hg2; cases hg2
end
theorem newR_parts (r d p : Int) (us : List Win) : (newR r d p us).ws = us ∧ (newR r d p us).y0 = [] ∧ (newR r d p us).y1 = [] := by
  unfold newR
  split <;> exact ⟨rfl, rfl, rfl⟩
attribute [local irreducible] HasLine newS chk connected
set_option maxRecDepth 20000 in
set_option maxHeartbeats 40000000 in
theorem operations_any (r d p : Int) (A : Option Addr) (n c : Nat) (ws : List Win) (B : Option Addr) (m c3 : Nat) (os : List OpR) (w : World) (hI : WinsIn w A n c ws) (hO : OpsIn w B m os) :
    Calls Try.prog 8 #[cfgV r d p A n c, .slice B m c3] w fun e w' => e = .returned (.bool true) ∧ Below w.heap.size w w' := by
  have hM := Mem.start [] w
  have HC := Lib.hid (fun w' hb => cut_in (r := r) (d := d) (p := p) (hI.keep (w' := w') hb))
  obtain ⟨us, hus⟩ : ∃ us, ws.take 40 = us := ⟨_, rfl⟩
  have hul : us.length ≤ 40 := by rw [← hus, List.length_take]; omega
  rw [hus] at HC
  have HU := Lib.hid hul
  clear hus hI
  have HO := Lib.hid hO
  clear hO
  by_cases hz : chk r d p us = 0
  · have HN := Lib.hid (fun (A : Option Addr) (c : Nat) w hW => new_any (w := w) r d p A us.length c us hW (by omega) hz)
    have HRN := Lib.hid (fun (A : Option Addr) (c : Nat) w hW => rnew_any r d p A c us w (by omega) hW)
    have HK := Lib.hid (tie_new hz)
    have HF := Lib.hid (newR_parts r d p us)
    generalize newS r d p us = S0 at HN HK
    generalize newR r d p us = T0 at HRN HK HF
    clear hz hul
    go_enter Try.func8, Try.ntmps8
    go_wp2_with (first | ((with_reducible refine (known_any _).mono ?_); rintro e w1 ⟨rfl, hb⟩; replace hM := hM.step hb; clear hb) | ((with_reducible refine (HC.out _ hM.below).mono ?_); rintro e w1 ⟨A1, c1', rfl, hb⟩; replace hM := hM.newThing hb; clear hb) | ((with_reducible refine (config_in (wT_in hM (List.Mem.head _)) HU.out).mono ?_); rintro e w1 ⟨A2, c2, rfl, hb⟩; replace hM := hM.newThing hb; clear hb) | ((with_reducible refine (HN.out _ _ _ (winT_in hM (List.Mem.head _))).mono ?_); rintro e w1 ⟨g, rfl, hH⟩; obtain ⟨fp, hM2⟩ := (HasLine.frame hM hH).ex; clear hM hH; have hM := hM2; clear hM2) | ((with_reducible refine (HRN.out _ _ _ (wT_in hM (List.Mem.tail _ (List.Mem.tail _ (List.Mem.head _))))).mono ?_); rintro e w1 ⟨rfl, hb⟩; replace hM := hM.step hb; clear hb) | ((first | with_reducible refine at_load ?_ | ((with_reducible refine at_load_g ?_ ?_); (· rfl))); first | refine lc hM ?_ | refine ll hM ?_ | refine lp hM ?_) | ((with_reducible refine at_store ?_); first | (refine ls hM ?_; clear hM; intro wx hM) | (refine lw hM ?_; clear hM; intro wx hM) | (refine lt hM ?_; clear hM; intro wx hM)) | ((with_reducible refine at_alloc ?_); refine lz hM ?_; clear hM; intro gx wx hM) | ((with_reducible refine at_box ?_); refine lb hM ?_; clear hM; intro gx wx hM))
    obtain ⟨g7, hg7⟩ := hM.name1
    subst hg7
    have hM2 := turn_new (c2 := c1') (B := none) (C := none) (c0 := 0) (c1 := 0) ((hM.subL (L' := [_]) (List.Sublist.cons_cons _ (List.nil_sublist _))).subR (R' := [_, _]) (List.Sublist.cons_cons _ (List.Sublist.cons _ (List.Sublist.cons_cons _ (List.nil_sublist _))))) (UpdR.tail _ (UpdR.head _ _)) HF.out.1 HF.out.2.1 HF.out.2.2
    have M0 := Lib.hid hM2
    clear hM hM2 HC HN HRN
    go_loopw [8] (fun i wr => ∃ (k : Nat) (S : Ln) (T : RL) (v : RV) (fp : List Nat), k ≤ m ∧ k ≤ 30 ∧ i = .int .i64 (k : Nat) ∧ Hid (Tie (200 * k) S T) ∧ Mem [] w [⟨g7, 66, 13, refCs T v⟩] [lineT fp g S, refT T v] wr) (fun i _ => 30 - (intOf i).toNat)
    case atStart => exact ⟨0, S0, T0, _, _, by omega, by omega, rfl, HK, M0.out⟩
    case round =>
      obtain ⟨k, S, T, v, fp, hk, hk30, rfl, HS, hM⟩ := hrel
      clear M0
      by_cases hlt : k < m ∧ k < 30
      · obtain ⟨hkm, hk3⟩ := hlt
        have hkl : k < os.length := by have := HO.out.len; omega
        obtain ⟨gb, ob, rfl, hgl, _⟩ := HO.out.at_ (by omega)
        have HX := Lib.hid (fun w' (hb : Below w.heap.size w w') => (HO.out.keep hb).cell k hkl)
        have hok := HO.out.ok _ (List.getElem_mem hkl)
        obtain ⟨o, ho⟩ : ∃ o, o = os[k] := ⟨_, rfl⟩
        rw [← ho] at HX hok
        clear ho
        have hk0 : (0 : Int) ≤ (k : Int) := Int.natCast_nonneg _
        have hk1 : (k : Int) < (m : Int) := by omega
        have hk2 : (k : Int) < 30 := by omega
        have HD := Lib.hid (fun (L : List Ent) (fp : List Nat) w' (h : Mem [] w L [lineT fp g S, refT T v] w') => do_any o hok h HS.out (by omega))
        clear hok
        go_upto_region 9 with (first | ((first | with_reducible refine at_load ?_ | ((with_reducible refine at_load_g ?_ ?_); (· rfl))); first | refine lc hM ?_ | refine ll hM ?_ | refine lp hM ?_) | ((with_reducible refine at_store ?_); first | (refine ls hM ?_; clear hM; intro wx hM) | (refine lw hM ?_; clear hM; intro wx hM) | (refine lt hM ?_; clear hM; intro wx hM)) | ((with_reducible refine at_alloc ?_); refine lz hM ?_; clear hM; intro gx wx hM) | ((with_reducible refine at_box ?_); refine lb hM ?_; clear hM; intro gx wx hM))
        refine wp_region_allHM hM (fun w' => ∃ L' R', Mem [] w (⟨g7, 66, 13, refCs T v⟩ :: L') R' w') (by kernel_rfl) ?_
        clear hM
        intro wd hM
        have hS : ∃ L' R', Mem [] w (⟨g7, 66, 13, refCs T v⟩ :: L') R' wd := ⟨_, _, hM⟩
        refine wpAllH_takes [0, 2, 3, 4, 1, 5] (by kernel_rfl) (fun _ _ _ _ _ h => h) hS (by kernel_rfl) ?_
        simp only [pickOps, List.filterMap_cons, List.filterMap_nil, List.getElem?_cons_zero, List.getElem?_cons_succ]
        repeat ((with_reducible apply wpHeld_step); (· rfl); (· (intro w hSw; first | (go_simp; rfl) | ((obtain ⟨_, _, hM'⟩ := hSw; first | exact yields_load (C := fun _ => True) (ql hM') rfl | exact held_row (HX.out _ hM'.below))))); intro K hK; go_simp; (with_reducible refine hK _ ?_); clear hK K)
        refine wpHeld_nil ?_
        refine wpAllH_two 6 10 rfl rfl (by kernel_rfl) ?_ ?_
        · go_wp2_with fail
          refine (HD.out _ _ _ hM).mono ?_
          clear hM hS
          rintro e w1 ⟨S', T', fp', v', rfl, HT', hM⟩
          go_wp2_with fail
          have hS : ∃ L' R', Mem [] w (⟨g7, 66, 13, refCs T v⟩ :: L') R' w1 := ⟨_, _, hM⟩
          refine then_normal ⟨hS, ?_⟩
          refine wpAllH_takes [7, 8, 9] (by kernel_rfl) (fun _ _ _ _ _ h => h) hS (by kernel_rfl) ?_
          simp only [pickOps, List.filterMap_cons, List.filterMap_nil, List.getElem?_cons_zero, List.getElem?_cons_succ]
          repeat ((with_reducible apply wpHeld_step); (· rfl); (· (intro w hSw; first | (go_simp; rfl) | (fail))); intro K hK; go_simp; (with_reducible refine hK _ ?_); clear hK K)
          refine wpHeld_nil ?_
          refine wpAllH_one 10 rfl (by kernel_rfl) ?_
          refine lz hM ?_
          clear hM hS
          intro g9 wx hM
          refine wpList_then ⟨⟨_, _, hM.subL (List.sublist_cons_self _ _)⟩, ?_⟩
          refine wpAllH_one 11 rfl (by kernel_rfl) ?_
          refine lw hM ?_
          clear hM
          intro wy hM
          have hS : ∃ L' R', Mem [] w (⟨g7, 66, 13, refCs T v⟩ :: L') R' wy := ⟨_, _, hM.subL (List.sublist_cons_self _ _)⟩
          refine wpList_then ⟨hS, ?_⟩
          refine wpAllH_takes [12] (by kernel_rfl) (fun _ _ _ _ _ h => h) hS (by kernel_rfl) ?_
          simp only [pickOps, List.filterMap_cons, List.filterMap_nil, List.getElem?_cons_zero, List.getElem?_cons_succ]
          repeat ((with_reducible apply wpHeld_step); (· rfl); (· (intro w hSw; first | (go_simp; rfl) | (fail))); intro K hK; go_simp; (with_reducible refine hK _ ?_); clear hK K)
          refine wpHeld_nil ?_
          refine wpAllH_done (by kernel_rfl) ?_
          have HST := Lib.hid (fun (L : List Ent) w' (h : Mem [] w L [lineT fp' g S', refT T' v'] w') => state_any (v := v') h HT' (by omega))
          have HT2 := Lib.hid HT'
          clear HT'
          go_wp2_with (first | ((with_reducible refine (HST.out _ _ hM).mono ?_); clear hM; rintro e w2 ⟨rfl, hM⟩) | ((first | with_reducible refine at_load ?_ | ((with_reducible refine at_load_g ?_ ?_); (· rfl))); first | refine lc hM ?_ | refine ll hM ?_ | refine lp hM ?_) | ((with_reducible refine at_store ?_); first | (refine ls hM ?_; clear hM; intro wx hM) | (refine lw hM ?_; clear hM; intro wx hM) | (refine lt hM ?_; clear hM; intro wx hM)) | ((with_reducible refine at_alloc ?_); refine lz hM ?_; clear hM; intro gx wx hM) | ((with_reducible refine at_box ?_); refine lb hM ?_; clear hM; intro gx wx hM))
          exact ⟨⟨k + 1, S', T', v', fp', by omega, by omega, by go_num, by rw [show 200 * (k + 1) = 200 * k + 200 by omega]; exact HT2, hM.subL (List.sublist_cons_self _ _)⟩, by simp [intOf]; omega⟩
        · refine lz hM ?_
          clear hM hS
          intro g9 wx hM
          have hS : ∃ L' R', Mem [] w (⟨g7, 66, 13, refCs T v⟩ :: L') R' wx := ⟨_, _, hM.subL (List.sublist_cons_self _ _)⟩
          refine wpList_then ⟨hS, ?_⟩
          refine wpAllH_one 6 rfl (by kernel_rfl) ?_
          go_wp2_with fail
          refine (HD.out _ _ _ hM).mono ?_
          clear hM hS
          rintro e w1 ⟨S', T', fp', v', rfl, HT', hM⟩
          go_wp2_with fail
          have hS : ∃ L' R', Mem [] w (⟨g7, 66, 13, refCs T v⟩ :: L') R' w1 := ⟨_, _, hM.subL (List.sublist_cons_self _ _)⟩
          refine then_normal ⟨hS, ?_⟩
          refine wpAllH_takes [7, 8, 9] (by kernel_rfl) (fun _ _ _ _ _ h => h) hS (by kernel_rfl) ?_
          simp only [pickOps, List.filterMap_cons, List.filterMap_nil, List.getElem?_cons_zero, List.getElem?_cons_succ]
          repeat ((with_reducible apply wpHeld_step); (· rfl); (· (intro w hSw; first | (go_simp; rfl) | (fail))); intro K hK; go_simp; (with_reducible refine hK _ ?_); clear hK K)
          refine wpHeld_nil ?_
          refine wpAllH_one 11 rfl (by kernel_rfl) ?_
          refine lw hM ?_
          clear hM hS
          intro wy hM
          have hS : ∃ L' R', Mem [] w (⟨g7, 66, 13, refCs T v⟩ :: L') R' wy := ⟨_, _, hM.subL (List.sublist_cons_self _ _)⟩
          refine wpList_then ⟨hS, ?_⟩
          refine wpAllH_takes [12] (by kernel_rfl) (fun _ _ _ _ _ h => h) hS (by kernel_rfl) ?_
          simp only [pickOps, List.filterMap_cons, List.filterMap_nil, List.getElem?_cons_zero, List.getElem?_cons_succ]
          repeat ((with_reducible apply wpHeld_step); (· rfl); (· (intro w hSw; first | (go_simp; rfl) | (fail))); intro K hK; go_simp; (with_reducible refine hK _ ?_); clear hK K)
          refine wpHeld_nil ?_
          refine wpAllH_done (by kernel_rfl) ?_
          have HST := Lib.hid (fun (L : List Ent) w' (h : Mem [] w L [lineT fp' g S', refT T' v'] w') => state_any (v := v') h HT' (by omega))
          have HT2 := Lib.hid HT'
          clear HT'
          go_wp2_with (first | ((with_reducible refine (HST.out _ _ hM).mono ?_); clear hM; rintro e w2 ⟨rfl, hM⟩) | ((first | with_reducible refine at_load ?_ | ((with_reducible refine at_load_g ?_ ?_); (· rfl))); first | refine lc hM ?_ | refine ll hM ?_ | refine lp hM ?_) | ((with_reducible refine at_store ?_); first | (refine ls hM ?_; clear hM; intro wx hM) | (refine lw hM ?_; clear hM; intro wx hM) | (refine lt hM ?_; clear hM; intro wx hM)) | ((with_reducible refine at_alloc ?_); refine lz hM ?_; clear hM; intro gx wx hM) | ((with_reducible refine at_box ?_); refine lb hM ?_; clear hM; intro gx wx hM))
          exact ⟨⟨k + 1, S', T', v', fp', by omega, by omega, by go_num, by rw [show 200 * (k + 1) = 200 * k + 200 by omega]; exact HT2, hM.subL (List.sublist_cons_self _ _)⟩, by simp [intOf]; omega⟩
      · have HB2 : k = m ∨ (k < m ∧ k = 30) := by omega
        rcases HB2 with h | ⟨h, h2⟩
        · subst h
          clear hlt
          go_wp2_with (first | ((first | with_reducible refine at_load ?_ | ((with_reducible refine at_load_g ?_ ?_); (· rfl))); first | refine lc hM ?_ | refine ll hM ?_ | refine lp hM ?_) | ((with_reducible refine at_store ?_); first | (refine ls hM ?_; clear hM; intro wx hM) | (refine lw hM ?_; clear hM; intro wx hM) | (refine lt hM ?_; clear hM; intro wx hM)) | ((with_reducible refine at_alloc ?_); refine lz hM ?_; clear hM; intro gx wx hM) | ((with_reducible refine at_box ?_); refine lb hM ?_; clear hM; intro gx wx hM))
          go_ret
          exact ⟨rfl, Mem.below hM⟩
        · subst h2
          have hk1 : ((30 : Nat) : Int) < (m : Int) := by omega
          clear hlt
          go_wp2_with (first | ((first | with_reducible refine at_load ?_ | ((with_reducible refine at_load_g ?_ ?_); (· rfl))); first | refine lc hM ?_ | refine ll hM ?_ | refine lp hM ?_) | ((with_reducible refine at_store ?_); first | (refine ls hM ?_; clear hM; intro wx hM) | (refine lw hM ?_; clear hM; intro wx hM) | (refine lt hM ?_; clear hM; intro wx hM)) | ((with_reducible refine at_alloc ?_); refine lz hM ?_; clear hM; intro gx wx hM) | ((with_reducible refine at_box ?_); refine lb hM ?_; clear hM; intro gx wx hM))
          go_ret
          exact ⟨rfl, Mem.below hM⟩
  · obtain ⟨z, hzz⟩ : ∃ z, chk r d p us = z := ⟨_, rfl⟩
    have c1 : (z != 0) = true := by rw [← hzz]; simpa using hz
    have HN := Lib.hid (fun (A : Option Addr) (c : Nat) w hW => new_no (w := w) r d p A us.length c us hW (by omega) hz)
    rw [hzz] at HN
    clear hz hzz hul
    go_enter Try.func8, Try.ntmps8
    go_wp2_with (first | ((with_reducible refine (known_any _).mono ?_); rintro e w1 ⟨rfl, hb⟩; replace hM := hM.step hb; clear hb) | ((with_reducible refine (HC.out _ hM.below).mono ?_); rintro e w1 ⟨A1, c1', rfl, hb⟩; replace hM := hM.newThing hb; clear hb) | ((with_reducible refine (config_in (wT_in hM (List.Mem.head _)) HU.out).mono ?_); rintro e w1 ⟨A2, c2, rfl, hb⟩; replace hM := hM.newThing hb; clear hb) | ((with_reducible refine (HN.out _ _ _ (winT_in hM (List.Mem.head _))).mono ?_); rintro e w1 ⟨rfl, hb⟩; replace hM := hM.step hb; clear hb) | ((first | with_reducible refine at_load ?_ | ((with_reducible refine at_load_g ?_ ?_); (· rfl))); first | refine lc hM ?_ | refine ll hM ?_ | refine lp hM ?_) | ((with_reducible refine at_store ?_); first | (refine ls hM ?_; clear hM; intro wx hM) | (refine lw hM ?_; clear hM; intro wx hM) | (refine lt hM ?_; clear hM; intro wx hM)) | ((with_reducible refine at_alloc ?_); refine lz hM ?_; clear hM; intro gx wx hM) | ((with_reducible refine at_box ?_); refine lb hM ?_; clear hM; intro gx wx hM))
    go_ret
    exact ⟨rfl, hM.below⟩
end Go.Proofs.Ytenflgbaibjeoaa
