/- A minute passes: what is sent, what arrives, how the line turns. -/
import Derived.Test.YtenflgbaibjeoaaLnm
import Derived.Deep.Cut
import Derived.Deep.DeepCutAuto
import Derived.Deep.CutBlock
import Derived.Deep.LoopGhost
namespace Go.Proofs.Ytenflgbaibjeoaa
open Go Go.RowKit Go.Bul Go.Thg Go.Lin
/-- A cell of a block that is there, as a load. -/
theorem held_load {w : World} {o : Oper} {a : Act} {ty : TypeId} {x : Operand} {g i : Nat} {v : Value} (hc : w.cell? ⟨g, i, none⟩ = some v) (ho : o.op = .load ty x := by rfl) (hx : a.eval x = .pointer (some ⟨g, i, none⟩) := by rfl) (hty : OneTy Try.prog ty := by first | exact one_int | exact one_bool | exact one_u8 | exact one_str | exact one_sW | exact one_sRW | exact one_sB | exact one_bytes | exact one_sP | exact one_ptr | exact one_errno | exact one_side) : (execOp a.eval o).run Try.prog w = .ok (.value v) w := by
  unfold execOp
  simp only [ho, hx, Instr.loadAt, Instr.sureAddr, Sem.run_bind, Sem.run_pure, Result.andThen_ok, run_one_load hty hc]
/-- A line's rate, delay and minute are as they were. -/
def HeldLine (p : Nat) (r d now : Int) (w : World) : Prop := ∃ cs, Blk w p 88 cs ∧ cs[0]? = some (.int .i64 r) ∧ cs[1]? = some (.int .i64 d) ∧ cs[4]? = some (.int .i64 now)
section
variable {G : List Nat} {w0 w : World} {L : List Ent} {R : List Thing} {p : Nat} {S : Ln}
set_option maxRecDepth 100000 in
set_option maxHeartbeats 8000000 in
theorem pass_any (h : HasLine G w0 L R p S w) (hk : Ok S) (hn : S.now < 10000000) : Calls Try.prog 44 #[.pointer (some ⟨p, 0, none⟩)] w fun e w' => e = .returned (.tuple #[]) ∧ HasLine G w0 L R p (passS S) w' := by
  have HK := Lib.hid (ok_send hk)
  unfold passS
  obtain ⟨T, hT⟩ : ∃ T, sendAll S = T := ⟨_, rfl⟩
  rw [hT] at HK ⊢
  have hnT : T.now = S.now := by rw [← hT]; unfold sendAll; split <;> rfl
  have HO := Lib.hid (ok_arrive HK.out (by rw [hnT]; exact hn))
  obtain ⟨U, hU⟩ : ∃ U, arrive T = U := ⟨_, rfl⟩
  rw [hU] at HO ⊢
  have HU := Lib.hid hU
  clear hU
  obtain ⟨r, d, q, ws, now, up, ses, E0, E1⟩ := S
  have HT := Lib.hid hT
  clear hT
  simp only at hnT
  obtain ⟨x, hM⟩ := h.open
  clear h
  simp only at hn
  go_enter Try.func44, Try.ntmps44
  go_upto_if 13 with (first | ((first | with_reducible refine at_load ?_ | ((with_reducible refine at_load_g ?_ ?_); (· rfl))); first | refine lc hM ?_ | refine ll hM ?_ | refine lp hM ?_) | ((with_reducible refine at_store ?_); first | (refine ls hM ?_; clear hM; intro wx hM) | (refine lw hM ?_; clear hM; intro wx hM) | (refine lt hM ?_; clear hM; intro wx hM)) | ((with_reducible refine at_alloc ?_); refine lz hM ?_; clear hM; intro gx wx hM) | ((with_reducible refine at_box ?_); refine lb hM ?_; clear hM; intro gx wx hM))
  go_simp
  go_cut [] (fun wc => HasLine G w0 L R p T wc)
  case first =>
    have hr := hk.r1
    have hn0 := hk.now1
    have hn1 : now ≤ 10000000 := by omega
    have hd0 := hk.d1
    have hd1 := hk.d2
    have hl0 : E0.wait.length ≤ 1000000000 := by have := hk.n0; simp only at this; omega
    have hl1 : E1.wait.length ≤ 1000000000 := by have := hk.n1; simp only at this; omega
    have hy0 : E0.way.length ≤ 100000000 := by have := hk.n0; have := wb_ge hk.w0; simp only at *; omega
    have hy1 : E1.way.length ≤ 100000000 := by have := hk.n1; have := wb_ge hk.w1; simp only at *; omega
    simp only at hr hn0 hd0 hd1
    clear HK hk hnT
    cases up with
    | false =>
      have hTT := HT.out
      simp only [sendAll, Bool.false_eq_true, if_false] at hTT
      subst hTT
      clear HT
      go_wp2_with fail
      go_meet
      exact HasLine.close hM
    | true =>
      have hTT := HT.out
      simp only [sendAll, if_true] at hTT
      subst hTT
      clear HT
      have wr1 : IntKind.i64.wrap (now + 1) = now + 1 := IntWalk.i64_in _ ⟨by omega, by omega⟩
      have wr2 : IntKind.i64.wrap (now + 1 + d) = now + 1 + d := IntWalk.i64_in _ ⟨by omega, by omega⟩
      go_wp2_with fail
      refine wp_loop_rounds 3 ?_
      obtain ⟨w0', rfl⟩ : ∃ w0', w0' = w := ⟨_, rfl⟩
      rw [rounds_succ]
      go_upto_block 1 with (first | ((first | with_reducible refine at_load ?_ | ((with_reducible refine at_load_g ?_ ?_); (· rfl))); first | refine lc hM ?_ | refine ll hM ?_ | refine lp hM ?_) | ((with_reducible refine at_store ?_); first | (refine ls hM ?_; clear hM; intro wx hM) | (refine lw hM ?_; clear hM; intro wx hM) | (refine lt hM ?_; clear hM; intro wx hM)) | ((with_reducible refine at_alloc ?_); refine lz hM ?_; clear hM; intro gx wx hM) | ((with_reducible refine at_box ?_); refine lb hM ?_; clear hM; intro gx wx hM))
      go_cut [2, 3, 4] (fun _ _ _ wc => HasLine G w0 L R p ⟨r, d, q, ws, now, true, ses, sent r now d E0, E1⟩ wc)
      case first =>
        by_cases hw : 0 < E0.wait.length
        · have c1 : decide ((0 : Int) < (E0.wait.length : Int)) = true := decide_eq_true (by omega)
          have c2 : decide (0 < E0.wait.length) = true := decide_eq_true hw
          obtain ⟨k, hk, e1, e2⟩ := take_cases E0.wait (most := r) (by omega)
          have hse : sent r now d E0 = ⟨E0.wait.drop k, E0.way ++ [(E0.wait.take k, now + 1 + d)], E0.arr⟩ := by unfold sent; rw [if_pos hw, e1, e2]
          clear e1 e2
          obtain ⟨T, hT⟩ : ∃ T, E0.wait.take k = T := ⟨_, rfl⟩
          obtain ⟨D, hD⟩ : ∃ D, E0.wait.drop k = D := ⟨_, rfl⟩
          rw [hT, hD] at hse
          have HSE := Lib.hid hse
          have HT := Lib.hid hT
          have HD := Lib.hid hD
          clear hse hT hD hw
          go_upto_region 6 with (first | ((first | with_reducible refine at_load ?_ | ((with_reducible refine at_load_g ?_ ?_); (· rfl))); first | refine lc hM ?_ | refine ll hM ?_ | refine lp hM ?_) | ((with_reducible refine at_store ?_); first | (refine ls hM ?_; clear hM; intro wx hM) | (refine lw hM ?_; clear hM; intro wx hM) | (refine lt hM ?_; clear hM; intro wx hM)) | ((with_reducible refine at_alloc ?_); refine lz hM ?_; clear hM; intro gx wx hM) | ((with_reducible refine at_box ?_); refine lb hM ?_; clear hM; intro gx wx hM))
          go_cut [4] (fun u4 wc => ∃ (gx : Nat) (Ab Av : Option Addr) (cb cv : Nat), u4 = .pointer (some ⟨gx, 0, none⟩) ∧ Mem G w0 (⟨gx, 99, 2, #[.slice Ab T.length cb, .int .i64 (now + 1 + d)]⟩ :: ⟨p, 88, 13, lineCs ⟨r, d, q, ws, now, true, ses, { E0 with wait := D }, E1⟩ { x with w0 := ⟨Av, cv⟩ }⟩ :: L) (bT (.slice Ab T.length cb) T :: lineRs ⟨r, d, q, ws, now, true, ses, { E0 with wait := D }, E1⟩ { x with w0 := ⟨Av, cv⟩ } R) wc)
          case first =>
            replace hM := hM.drew
            have hS : HeldLine p r d now w0'.drew := ⟨_, hM.blk (List.Mem.head _), rfl, rfl, rfl⟩
            refine wp_region_allH (HeldLine p r d now) (by kernel_rfl) ?_
            refine wpAllH_takes [0, 1, 2, 3, 4, 5, 6, 9, 10, 11, 14, 15, 16, 17, 7, 12, 13, 18, 19] (by kernel_rfl) (fun _ _ _ _ _ h => h) hS (by kernel_rfl) ?_
            simp only [pickOps, List.filterMap_cons, List.filterMap_nil, List.getElem?_cons_zero, List.getElem?_cons_succ]
            repeat ((with_reducible apply wpHeld_step); (· rfl); (· (intro w hSw; first | (go_simp; rfl) | ((obtain ⟨cs, hB, e0, e1, e4⟩ := hSw; first | exact held_load ((hB.cell _).trans e0) | exact held_load ((hB.cell _).trans e1) | exact held_load ((hB.cell _).trans e4))))); intro K hK; go_simp; (with_reducible refine hK _ ?_); clear hK K)
            refine wpHeld_nil ?_
            refine wpAllH_two 8 21 rfl rfl (by kernel_rfl) ?_ ?_
            · go_wp2_with fail
              refine (take_nat G w0 _ L _ p 7 13 88 _ _ E0.wait r k (Mem.toFront [_] hM) rfl (by decide) hl0 hk).mono ?_
              clear hM
              rintro e w1 ⟨b, v', rfl, hM⟩
              rw [HT.out, HD.out] at hM
              obtain ⟨Ab, cb, rfl, hcb⟩ := bT_form (hM.thing _ (List.Mem.head _))
              obtain ⟨Av, cv, rfl, hcv⟩ := bT_form (hM.thing _ (List.Mem.tail _ (List.Mem.head _)))
              clear hcb hcv hS
              have hS : HeldLine p r d now w1 := ⟨_, hM.blk (List.Mem.head _), rfl, rfl, rfl⟩
              go_wp2_with fail
              refine then_normal ⟨hS, ?_⟩
              refine wpAllH_takes [20] (by kernel_rfl) (fun _ _ _ _ _ h => h) hS (by kernel_rfl) ?_
              simp only [pickOps, List.filterMap_cons, List.filterMap_nil, List.getElem?_cons_zero, List.getElem?_cons_succ]
              repeat ((with_reducible apply wpHeld_step); (· rfl); (· (intro w hSw; first | (go_simp; rfl) | (fail))); intro K hK; go_simp; (with_reducible refine hK _ ?_); clear hK K)
              refine wpHeld_nil ?_
              refine wpAllH_one 21 rfl (by kernel_rfl) ?_
              refine lz hM ?_
              clear hM hS
              intro gx wx hM
              have hS : HeldLine p r d now wx := ⟨_, hM.blk (List.Mem.tail _ (List.Mem.head _)), rfl, rfl, rfl⟩
              refine wpList_then ⟨hS, ?_⟩
              go_simp
              refine wpAllH_one 22 rfl (by kernel_rfl) ?_
              refine lw hM ?_
              clear hM hS
              intro wx hM
              have hS : HeldLine p r d now wx := ⟨_, hM.blk (List.Mem.tail _ (List.Mem.head _)), rfl, rfl, rfl⟩
              refine wpList_then ⟨hS, ?_⟩
              refine wpAllH_done (by kernel_rfl) ?_
              go_wp2_with fail
              go_meet
              exact ⟨gx, Ab, Av, cb, cv, rfl, hM.perm (List.Perm.cons _ (List.perm_middle (l₁ := [_])))⟩
            · refine lz hM ?_
              clear hM hS
              intro gx wx hM
              have hS : HeldLine p r d now wx := ⟨_, hM.blk (List.Mem.tail _ (List.Mem.head _)), rfl, rfl, rfl⟩
              refine wpList_then ⟨hS, ?_⟩
              go_simp
              refine wpAllH_one 8 rfl (by kernel_rfl) ?_
              go_wp2_with fail
              refine (take_nat G w0 _ (_ :: L) _ p 7 13 88 _ _ E0.wait r k (Mem.toFront [_] (hM.permL (List.Perm.swap _ _ _))) rfl (by decide) hl0 hk).mono ?_
              clear hM
              rintro e w1 ⟨b, v', rfl, hM⟩
              rw [HT.out, HD.out] at hM
              obtain ⟨Ab, cb, rfl, hcb⟩ := bT_form (hM.thing _ (List.Mem.head _))
              obtain ⟨Av, cv, rfl, hcv⟩ := bT_form (hM.thing _ (List.Mem.tail _ (List.Mem.head _)))
              clear hcb hcv hS
              have hS : HeldLine p r d now w1 := ⟨_, hM.blk (List.Mem.head _), rfl, rfl, rfl⟩
              go_wp2_with fail
              refine then_normal ⟨hS, ?_⟩
              refine wpAllH_takes [20] (by kernel_rfl) (fun _ _ _ _ _ h => h) hS (by kernel_rfl) ?_
              simp only [pickOps, List.filterMap_cons, List.filterMap_nil, List.getElem?_cons_zero, List.getElem?_cons_succ]
              repeat ((with_reducible apply wpHeld_step); (· rfl); (· (intro w hSw; first | (go_simp; rfl) | (fail))); intro K hK; go_simp; (with_reducible refine hK _ ?_); clear hK K)
              refine wpHeld_nil ?_
              refine wpAllH_one 22 rfl (by kernel_rfl) ?_
              refine lw hM ?_
              clear hM hS
              intro wx hM
              have hS : HeldLine p r d now wx := ⟨_, hM.blk (List.Mem.head _), rfl, rfl, rfl⟩
              refine wpList_then ⟨hS, ?_⟩
              refine wpAllH_done (by kernel_rfl) ?_
              go_wp2_with fail
              go_meet
              exact ⟨gx, Ab, Av, cb, cv, rfl, (hM.permL (List.Perm.swap _ _ _)).perm (List.Perm.cons _ (List.perm_middle (l₁ := [_])))⟩
          case rest =>
            obtain ⟨gx, Ab, Av, cb, cv, rfl, hM0⟩ := hcut
            clear hM
            have hM := hM0
            clear hM0
            obtain ⟨pvs, hpl, hM1⟩ := way_open (Mem.toFront [_, _, _] hM)
            clear hM
            have hM := hM1.drew
            clear hM1
            have HPL := Lib.hid hpl
            clear hpl
            go_wp2_with fail
            refine wp_region_all (by kernel_rfl) ?_
            refine wpAll_takes [0, 1, 2, 3] (by kernel_rfl) (fun _ _ _ _ _ h => h) (by kernel_rfl) ?_
            simp only [pickOps, List.filterMap_cons, List.filterMap_nil, List.getElem?_cons_zero, List.getElem?_cons_succ]
            repeat ((with_reducible apply wpPure_step); (· rfl); (· (intro w; go_simp; rfl)); intro K hK; go_simp; (with_reducible refine hK _ ?_); clear hK K)
            refine wpPure_nil ?_
            refine wpAll_two 4 5 rfl rfl (by kernel_rfl) ?_ ?_
            · refine lc hM ?_
              refine wpList_then ?_
              go_simp
              refine wpAll_seq [5, 6, 7, 8, 9, 10] (by kernel_rfl) ?_
              simp only [pickOps, List.filterMap_cons, List.filterMap_nil, List.getElem?_cons_zero, List.getElem?_cons_succ]
              repeat (first | ((first | refine lc hM ?_ | refine ll hM ?_ | (refine lbp hM ?_; clear hM; intro gy wy hM) | (refine lap T hM HPL.out hy0 ?_; clear hM; intro Ax Nx cx wz hN hM) | (refine ls hM ?_ (hX := by exact set_13_8); clear hM; intro wq hM)); go_simp) | ((with_reducible apply wpList_pure); (· rfl); (· (go_simp; rfl)); go_simp))
              refine wpList_end ?_
              obtain rfl := hN.out
              go_wp2_with fail
              go_meet
              obtain ⟨fx, hM2⟩ := way_snoc (R := [_] ++ _) (hM.subL ((List.sublist_cons_self _ _).trans (List.sublist_cons_self _ _))) HPL.out
              rw [HSE.out]
              exact HasLine.close (x := { x with w0 := ⟨Av, cv⟩, y0 := ⟨Ax, cx⟩, f0 := fx }) (Mem.fromFront [_, _] hM2)
            · refine ll hM ?_
              refine wpList_then ?_
              go_simp
              refine wpAll_two 4 6 rfl rfl (by kernel_rfl) ?_ ?_
              · refine lc hM ?_
                refine wpList_then ?_
                go_simp
                refine wpAll_seq [6, 7, 8, 9, 10] (by kernel_rfl) ?_
                simp only [pickOps, List.filterMap_cons, List.filterMap_nil, List.getElem?_cons_zero, List.getElem?_cons_succ]
                repeat (first | ((first | refine lc hM ?_ | refine ll hM ?_ | (refine lbp hM ?_; clear hM; intro gy wy hM) | (refine lap T hM HPL.out hy0 ?_; clear hM; intro Ax Nx cx wz hN hM) | (refine ls hM ?_ (hX := by exact set_13_8); clear hM; intro wq hM)); go_simp) | ((with_reducible apply wpList_pure); (· rfl); (· (go_simp; rfl)); go_simp))
                refine wpList_end ?_
                obtain rfl := hN.out
                go_wp2_with fail
                go_meet
                obtain ⟨fx, hM2⟩ := way_snoc (R := [_] ++ _) (hM.subL ((List.sublist_cons_self _ _).trans (List.sublist_cons_self _ _))) HPL.out
                rw [HSE.out]
                exact HasLine.close (x := { x with w0 := ⟨Av, cv⟩, y0 := ⟨Ax, cx⟩, f0 := fx }) (Mem.fromFront [_, _] hM2)
              · (refine lbp hM ?_; clear hM; intro gy wy hM)
                refine wpList_then ?_
                go_simp
                refine wpAll_seq [4, 7, 8, 9, 10] (by kernel_rfl) ?_
                simp only [pickOps, List.filterMap_cons, List.filterMap_nil, List.getElem?_cons_zero, List.getElem?_cons_succ]
                repeat (first | ((first | refine lc hM ?_ | refine ll hM ?_ | (refine lbp hM ?_; clear hM; intro gy wy hM) | (refine lap T hM HPL.out hy0 ?_; clear hM; intro Ax Nx cx wz hN hM) | (refine ls hM ?_ (hX := by exact set_13_8); clear hM; intro wq hM)); go_simp) | ((with_reducible apply wpList_pure); (· rfl); (· (go_simp; rfl)); go_simp))
                refine wpList_end ?_
                obtain rfl := hN.out
                go_wp2_with fail
                go_meet
                obtain ⟨fx, hM2⟩ := way_snoc (R := [_] ++ _) (hM.subL ((List.sublist_cons_self _ _).trans (List.sublist_cons_self _ _))) HPL.out
                rw [HSE.out]
                exact HasLine.close (x := { x with w0 := ⟨Av, cv⟩, y0 := ⟨Ax, cx⟩, f0 := fx }) (Mem.fromFront [_, _] hM2)
        · have c1 : decide ((0 : Int) < (E0.wait.length : Int)) = false := decide_eq_false (by omega)
          have c2 : decide (0 < E0.wait.length) = false := decide_eq_false hw
          have hse : sent r now d E0 = E0 := by unfold sent; rw [if_neg hw]
          clear hw
          go_wp2_with (first | ((first | with_reducible refine at_load ?_ | ((with_reducible refine at_load_g ?_ ?_); (· rfl))); first | refine lc hM ?_ | refine ll hM ?_ | refine lp hM ?_) | ((with_reducible refine at_store ?_); first | (refine ls hM ?_; clear hM; intro wx hM) | (refine lw hM ?_; clear hM; intro wx hM) | (refine lt hM ?_; clear hM; intro wx hM)) | ((with_reducible refine at_alloc ?_); refine lz hM ?_; clear hM; intro gx wx hM) | ((with_reducible refine at_box ?_); refine lb hM ?_; clear hM; intro gx wx hM))
          go_meet
          rw [hse]
          exact HasLine.close hM
      case rest =>
      obtain ⟨x, hM⟩ := HasLine.open hcut
      clear hcut
      obtain ⟨F0, hF0⟩ : ∃ F, sent r now d E0 = F := ⟨_, rfl⟩
      rw [hF0] at hM
      have HF0 := Lib.hid hF0
      clear hF0
      obtain ⟨w0', rfl⟩ : ∃ w0', w0' = wc := ⟨_, rfl⟩
      go_wp2_with fail
      rw [rounds_succ]
      go_upto_block 1 with (first | ((first | with_reducible refine at_load ?_ | ((with_reducible refine at_load_g ?_ ?_); (· rfl))); first | refine lc hM ?_ | refine ll hM ?_ | refine lp hM ?_) | ((with_reducible refine at_store ?_); first | (refine ls hM ?_; clear hM; intro wx hM) | (refine lw hM ?_; clear hM; intro wx hM) | (refine lt hM ?_; clear hM; intro wx hM)) | ((with_reducible refine at_alloc ?_); refine lz hM ?_; clear hM; intro gx wx hM) | ((with_reducible refine at_box ?_); refine lb hM ?_; clear hM; intro gx wx hM))
      go_cut [2, 3, 4] (fun _ _ _ wc => HasLine G w0 L R p ⟨r, d, q, ws, now, true, ses, F0, sent r now d E1⟩ wc)
      case first =>
        by_cases hw : 0 < E1.wait.length
        · have c1 : decide ((0 : Int) < (E1.wait.length : Int)) = true := decide_eq_true (by omega)
          have c2 : decide (0 < E1.wait.length) = true := decide_eq_true hw
          obtain ⟨k, hk, e1, e2⟩ := take_cases E1.wait (most := r) (by omega)
          have hse : sent r now d E1 = ⟨E1.wait.drop k, E1.way ++ [(E1.wait.take k, now + 1 + d)], E1.arr⟩ := by unfold sent; rw [if_pos hw, e1, e2]
          clear e1 e2
          obtain ⟨T, hT⟩ : ∃ T, E1.wait.take k = T := ⟨_, rfl⟩
          obtain ⟨D, hD⟩ : ∃ D, E1.wait.drop k = D := ⟨_, rfl⟩
          rw [hT, hD] at hse
          have HSE := Lib.hid hse
          have HT := Lib.hid hT
          have HD := Lib.hid hD
          clear hse hT hD hw
          go_upto_region 6 with (first | ((first | with_reducible refine at_load ?_ | ((with_reducible refine at_load_g ?_ ?_); (· rfl))); first | refine lc hM ?_ | refine ll hM ?_ | refine lp hM ?_) | ((with_reducible refine at_store ?_); first | (refine ls hM ?_; clear hM; intro wx hM) | (refine lw hM ?_; clear hM; intro wx hM) | (refine lt hM ?_; clear hM; intro wx hM)) | ((with_reducible refine at_alloc ?_); refine lz hM ?_; clear hM; intro gx wx hM) | ((with_reducible refine at_box ?_); refine lb hM ?_; clear hM; intro gx wx hM))
          go_cut [4] (fun u4 wc => ∃ (gx : Nat) (Ab Av : Option Addr) (cb cv : Nat), u4 = .pointer (some ⟨gx, 0, none⟩) ∧ Mem G w0 (⟨gx, 99, 2, #[.slice Ab T.length cb, .int .i64 (now + 1 + d)]⟩ :: ⟨p, 88, 13, lineCs ⟨r, d, q, ws, now, true, ses, F0, { E1 with wait := D }⟩ { x with w1 := ⟨Av, cv⟩ }⟩ :: L) (bT (.slice Ab T.length cb) T :: lineRs ⟨r, d, q, ws, now, true, ses, F0, { E1 with wait := D }⟩ { x with w1 := ⟨Av, cv⟩ } R) wc)
          case first =>
            replace hM := hM.drew
            have hS : HeldLine p r d now w0'.drew := ⟨_, hM.blk (List.Mem.head _), rfl, rfl, rfl⟩
            refine wp_region_allH (HeldLine p r d now) (by kernel_rfl) ?_
            refine wpAllH_takes [0, 1, 2, 3, 4, 5, 6, 9, 10, 11, 14, 15, 16, 17, 7, 12, 13, 18, 19] (by kernel_rfl) (fun _ _ _ _ _ h => h) hS (by kernel_rfl) ?_
            simp only [pickOps, List.filterMap_cons, List.filterMap_nil, List.getElem?_cons_zero, List.getElem?_cons_succ]
            repeat ((with_reducible apply wpHeld_step); (· rfl); (· (intro w hSw; first | (go_simp; rfl) | ((obtain ⟨cs, hB, e0, e1, e4⟩ := hSw; first | exact held_load ((hB.cell _).trans e0) | exact held_load ((hB.cell _).trans e1) | exact held_load ((hB.cell _).trans e4))))); intro K hK; go_simp; (with_reducible refine hK _ ?_); clear hK K)
            refine wpHeld_nil ?_
            refine wpAllH_two 8 21 rfl rfl (by kernel_rfl) ?_ ?_
            · go_wp2_with fail
              refine (take_nat G w0 _ L _ p 10 13 88 _ _ E1.wait r k (Mem.toFront [_, _, _, _] hM) rfl (by decide) hl1 hk).mono ?_
              clear hM
              rintro e w1 ⟨b, v', rfl, hM⟩
              rw [HT.out, HD.out] at hM
              obtain ⟨Ab, cb, rfl, hcb⟩ := bT_form (hM.thing _ (List.Mem.head _))
              obtain ⟨Av, cv, rfl, hcv⟩ := bT_form (hM.thing _ (List.Mem.tail _ (List.Mem.head _)))
              clear hcb hcv hS
              have hS : HeldLine p r d now w1 := ⟨_, hM.blk (List.Mem.head _), rfl, rfl, rfl⟩
              go_wp2_with fail
              refine then_normal ⟨hS, ?_⟩
              refine wpAllH_takes [20] (by kernel_rfl) (fun _ _ _ _ _ h => h) hS (by kernel_rfl) ?_
              simp only [pickOps, List.filterMap_cons, List.filterMap_nil, List.getElem?_cons_zero, List.getElem?_cons_succ]
              repeat ((with_reducible apply wpHeld_step); (· rfl); (· (intro w hSw; first | (go_simp; rfl) | (fail))); intro K hK; go_simp; (with_reducible refine hK _ ?_); clear hK K)
              refine wpHeld_nil ?_
              refine wpAllH_one 21 rfl (by kernel_rfl) ?_
              refine lz hM ?_
              clear hM hS
              intro gx wx hM
              have hS : HeldLine p r d now wx := ⟨_, hM.blk (List.Mem.tail _ (List.Mem.head _)), rfl, rfl, rfl⟩
              refine wpList_then ⟨hS, ?_⟩
              go_simp
              refine wpAllH_one 22 rfl (by kernel_rfl) ?_
              refine lw hM ?_
              clear hM hS
              intro wx hM
              have hS : HeldLine p r d now wx := ⟨_, hM.blk (List.Mem.tail _ (List.Mem.head _)), rfl, rfl, rfl⟩
              refine wpList_then ⟨hS, ?_⟩
              refine wpAllH_done (by kernel_rfl) ?_
              go_wp2_with fail
              go_meet
              exact ⟨gx, Ab, Av, cb, cv, rfl, hM.perm (List.Perm.cons _ (List.perm_middle (l₁ := [_, _, _, _])))⟩
            · refine lz hM ?_
              clear hM hS
              intro gx wx hM
              have hS : HeldLine p r d now wx := ⟨_, hM.blk (List.Mem.tail _ (List.Mem.head _)), rfl, rfl, rfl⟩
              refine wpList_then ⟨hS, ?_⟩
              go_simp
              refine wpAllH_one 8 rfl (by kernel_rfl) ?_
              go_wp2_with fail
              refine (take_nat G w0 _ (_ :: L) _ p 10 13 88 _ _ E1.wait r k (Mem.toFront [_, _, _, _] (hM.permL (List.Perm.swap _ _ _))) rfl (by decide) hl1 hk).mono ?_
              clear hM
              rintro e w1 ⟨b, v', rfl, hM⟩
              rw [HT.out, HD.out] at hM
              obtain ⟨Ab, cb, rfl, hcb⟩ := bT_form (hM.thing _ (List.Mem.head _))
              obtain ⟨Av, cv, rfl, hcv⟩ := bT_form (hM.thing _ (List.Mem.tail _ (List.Mem.head _)))
              clear hcb hcv hS
              have hS : HeldLine p r d now w1 := ⟨_, hM.blk (List.Mem.head _), rfl, rfl, rfl⟩
              go_wp2_with fail
              refine then_normal ⟨hS, ?_⟩
              refine wpAllH_takes [20] (by kernel_rfl) (fun _ _ _ _ _ h => h) hS (by kernel_rfl) ?_
              simp only [pickOps, List.filterMap_cons, List.filterMap_nil, List.getElem?_cons_zero, List.getElem?_cons_succ]
              repeat ((with_reducible apply wpHeld_step); (· rfl); (· (intro w hSw; first | (go_simp; rfl) | (fail))); intro K hK; go_simp; (with_reducible refine hK _ ?_); clear hK K)
              refine wpHeld_nil ?_
              refine wpAllH_one 22 rfl (by kernel_rfl) ?_
              refine lw hM ?_
              clear hM hS
              intro wx hM
              have hS : HeldLine p r d now wx := ⟨_, hM.blk (List.Mem.head _), rfl, rfl, rfl⟩
              refine wpList_then ⟨hS, ?_⟩
              refine wpAllH_done (by kernel_rfl) ?_
              go_wp2_with fail
              go_meet
              exact ⟨gx, Ab, Av, cb, cv, rfl, (hM.permL (List.Perm.swap _ _ _)).perm (List.Perm.cons _ (List.perm_middle (l₁ := [_, _, _, _])))⟩
          case rest =>
            obtain ⟨gx, Ab, Av, cb, cv, rfl, hM0⟩ := hcut
            clear hM
            have hM := hM0
            clear hM0
            obtain ⟨pvs, hpl, hM1⟩ := way_open (Mem.toFront [_, _, _, _, _, _] hM)
            clear hM
            have hM := hM1.drew
            clear hM1
            have HPL := Lib.hid hpl
            clear hpl
            go_wp2_with fail
            refine wp_region_all (by kernel_rfl) ?_
            refine wpAll_takes [0, 1, 2, 3] (by kernel_rfl) (fun _ _ _ _ _ h => h) (by kernel_rfl) ?_
            simp only [pickOps, List.filterMap_cons, List.filterMap_nil, List.getElem?_cons_zero, List.getElem?_cons_succ]
            repeat ((with_reducible apply wpPure_step); (· rfl); (· (intro w; go_simp; rfl)); intro K hK; go_simp; (with_reducible refine hK _ ?_); clear hK K)
            refine wpPure_nil ?_
            refine wpAll_two 4 5 rfl rfl (by kernel_rfl) ?_ ?_
            · refine lc hM ?_
              refine wpList_then ?_
              go_simp
              refine wpAll_seq [5, 6, 7, 8, 9, 10] (by kernel_rfl) ?_
              simp only [pickOps, List.filterMap_cons, List.filterMap_nil, List.getElem?_cons_zero, List.getElem?_cons_succ]
              repeat (first | ((first | refine lc hM ?_ | refine ll hM ?_ | (refine lbp hM ?_; clear hM; intro gy wy hM) | (refine lap T hM HPL.out hy1 ?_; clear hM; intro Ax Nx cx wz hN hM) | (refine ls hM ?_ (hX := by exact set_13_11); clear hM; intro wq hM)); go_simp) | ((with_reducible apply wpList_pure); (· rfl); (· (go_simp; rfl)); go_simp))
              refine wpList_end ?_
              obtain rfl := hN.out
              go_wp2_with fail
              go_meet
              obtain ⟨fx, hM2⟩ := way_snoc (R := [_, _, _, _] ++ _) (hM.subL ((List.sublist_cons_self _ _).trans (List.sublist_cons_self _ _))) HPL.out
              rw [HSE.out]
              exact HasLine.close (x := { x with w1 := ⟨Av, cv⟩, y1 := ⟨Ax, cx⟩, f1 := fx }) (Mem.fromFront [_, _, _, _, _] hM2)
            · refine ll hM ?_
              refine wpList_then ?_
              go_simp
              refine wpAll_two 4 6 rfl rfl (by kernel_rfl) ?_ ?_
              · refine lc hM ?_
                refine wpList_then ?_
                go_simp
                refine wpAll_seq [6, 7, 8, 9, 10] (by kernel_rfl) ?_
                simp only [pickOps, List.filterMap_cons, List.filterMap_nil, List.getElem?_cons_zero, List.getElem?_cons_succ]
                repeat (first | ((first | refine lc hM ?_ | refine ll hM ?_ | (refine lbp hM ?_; clear hM; intro gy wy hM) | (refine lap T hM HPL.out hy1 ?_; clear hM; intro Ax Nx cx wz hN hM) | (refine ls hM ?_ (hX := by exact set_13_11); clear hM; intro wq hM)); go_simp) | ((with_reducible apply wpList_pure); (· rfl); (· (go_simp; rfl)); go_simp))
                refine wpList_end ?_
                obtain rfl := hN.out
                go_wp2_with fail
                go_meet
                obtain ⟨fx, hM2⟩ := way_snoc (R := [_, _, _, _] ++ _) (hM.subL ((List.sublist_cons_self _ _).trans (List.sublist_cons_self _ _))) HPL.out
                rw [HSE.out]
                exact HasLine.close (x := { x with w1 := ⟨Av, cv⟩, y1 := ⟨Ax, cx⟩, f1 := fx }) (Mem.fromFront [_, _, _, _, _] hM2)
              · (refine lbp hM ?_; clear hM; intro gy wy hM)
                refine wpList_then ?_
                go_simp
                refine wpAll_seq [4, 7, 8, 9, 10] (by kernel_rfl) ?_
                simp only [pickOps, List.filterMap_cons, List.filterMap_nil, List.getElem?_cons_zero, List.getElem?_cons_succ]
                repeat (first | ((first | refine lc hM ?_ | refine ll hM ?_ | (refine lbp hM ?_; clear hM; intro gy wy hM) | (refine lap T hM HPL.out hy1 ?_; clear hM; intro Ax Nx cx wz hN hM) | (refine ls hM ?_ (hX := by exact set_13_11); clear hM; intro wq hM)); go_simp) | ((with_reducible apply wpList_pure); (· rfl); (· (go_simp; rfl)); go_simp))
                refine wpList_end ?_
                obtain rfl := hN.out
                go_wp2_with fail
                go_meet
                obtain ⟨fx, hM2⟩ := way_snoc (R := [_, _, _, _] ++ _) (hM.subL ((List.sublist_cons_self _ _).trans (List.sublist_cons_self _ _))) HPL.out
                rw [HSE.out]
                exact HasLine.close (x := { x with w1 := ⟨Av, cv⟩, y1 := ⟨Ax, cx⟩, f1 := fx }) (Mem.fromFront [_, _, _, _, _] hM2)
        · have c1 : decide ((0 : Int) < (E1.wait.length : Int)) = false := decide_eq_false (by omega)
          have c2 : decide (0 < E1.wait.length) = false := decide_eq_false hw
          have hse : sent r now d E1 = E1 := by unfold sent; rw [if_neg hw]
          clear hw
          go_wp2_with (first | ((first | with_reducible refine at_load ?_ | ((with_reducible refine at_load_g ?_ ?_); (· rfl))); first | refine lc hM ?_ | refine ll hM ?_ | refine lp hM ?_) | ((with_reducible refine at_store ?_); first | (refine ls hM ?_; clear hM; intro wx hM) | (refine lw hM ?_; clear hM; intro wx hM) | (refine lt hM ?_; clear hM; intro wx hM)) | ((with_reducible refine at_alloc ?_); refine lz hM ?_; clear hM; intro gx wx hM) | ((with_reducible refine at_box ?_); refine lb hM ?_; clear hM; intro gx wx hM))
          go_meet
          rw [hse]
          exact HasLine.close hM
      case rest =>
      obtain ⟨x, hM⟩ := HasLine.open hcut
      clear hcut
      obtain ⟨F1, hF1⟩ : ∃ F, sent r now d E1 = F := ⟨_, rfl⟩
      rw [hF1] at hM
      have HF1 := Lib.hid hF1
      clear hF1
      go_wp2_with fail
      rw [rounds_succ]
      go_wp2_with fail
      go_meet
      obtain rfl := HF0.out
      obtain rfl := HF1.out
      exact HasLine.close hM
  case rest =>
  obtain ⟨r, d, q, ws, now, up, ses, E0, E1⟩ := T
  simp only at hnT
  subst hnT
  clear HT hk hM
  obtain ⟨x, hM⟩ := hcut.open
  clear hcut
  obtain ⟨n, hN⟩ : ∃ n, now + 1 = n := ⟨_, rfl⟩
  have wr1 : IntKind.i64.wrap (now + 1) = n := by rw [← hN]; exact IntWalk.i64_in _ ⟨by have := HK.out.now1; simp only at this; omega, by omega⟩
  have HN := Lib.hid hN
  clear hN
  go_upto_block 2 with (first | ((with_reducible refine at_load ?_); refine lc hM ?_) | (refine ls hM ?_ (hX := by exact set_13_4); clear hM; intro wq hM))
  go_cut [5, 6, 7] (fun _ _ _ wc => HasLine G w0 L R p U wc)
  case first =>
    have hy0 : E0.way.length ≤ 100000000 := by have := HK.out.n0; have := wb_ge HK.out.w0; simp only at *; omega
    have hy1 : E1.way.length ≤ 100000000 := by have := HK.out.n1; have := wb_ge HK.out.w1; simp only at *; omega
    have hb0 : E1.arr.length + wb E0.way ≤ 100000000 := by have := HK.out.n0; simp only at this; omega
    have hb1 : E0.arr.length + wb E1.way ≤ 100000000 := by have := HK.out.n1; simp only at this; omega
    have hAr : arrive ⟨r, d, q, ws, now, up, ses, E0, E1⟩ = ⟨r, d, q, ws, n, up, ses, ⟨E0.wait, restL n E0.way, E0.arr ++ dueL n E1.way⟩, ⟨E1.wait, restL n E1.way, E1.arr ++ dueL n E0.way⟩⟩ := by rw [← HN.out]; rfl
    have HAr := Lib.hid hAr
    clear hAr HK
    go_wp2_with fail
    refine wp_loop_rounds 3 ?_
    have wz1 : IntKind.i64.wrap 1 = 1 := by decide
    have wz0 : IntKind.i64.wrap 0 = 0 := by decide
    rw [rounds_succ]
    go_upto_block 3 with (first | ((first | with_reducible refine at_load ?_ | ((with_reducible refine at_load_g ?_ ?_); (· rfl))); first | refine lc hM ?_ | refine ll hM ?_ | refine lp hM ?_) | ((with_reducible refine at_store ?_); first | (refine ls hM ?_; clear hM; intro wx hM) | (refine lw hM ?_; clear hM; intro wx hM) | (refine lt hM ?_; clear hM; intro wx hM)) | ((with_reducible refine at_alloc ?_); refine lz hM ?_; clear hM; intro gx wx hM) | ((with_reducible refine at_box ?_); refine lb hM ?_; clear hM; intro gx wx hM))
    go_cut [5, 6, 7] (fun _ _ _ wc => HasLine G w0 L R p ⟨r, d, q, ws, n, up, ses, ⟨E0.wait, restL n E0.way, E0.arr⟩, ⟨E1.wait, E1.way, E1.arr ++ dueL n E0.way⟩⟩ wc)
    case first =>
      go_upto_region 13 with (first | ((first | with_reducible refine at_load ?_ | ((with_reducible refine at_load_g ?_ ?_); (· rfl))); first | refine lc hM ?_ | refine ll hM ?_ | refine lp hM ?_) | ((with_reducible refine at_store ?_); first | (refine ls hM ?_; clear hM; intro wx hM) | (refine lw hM ?_; clear hM; intro wx hM) | (refine lt hM ?_; clear hM; intro wx hM)) | ((with_reducible refine at_alloc ?_); refine lz hM ?_; clear hM; intro gx wx hM) | ((with_reducible refine at_box ?_); refine lb hM ?_; clear hM; intro gx wx hM))
      have hM := hM.drew
      refine wp_region_all (by kernel_rfl) ?_
      refine wpAll_takes [0, 1, 2, 3, 4, 5, 6, 7, 8, 9, 10, 11, 12] (by kernel_rfl) (fun _ _ _ _ _ h => h) (by kernel_rfl) ?_
      simp only [pickOps, List.filterMap_cons, List.filterMap_nil, List.getElem?_cons_zero, List.getElem?_cons_succ]
      repeat ((with_reducible apply wpPure_step); (· rfl); (· (intro w; go_simp; rfl)); intro K hK; go_simp; (with_reducible refine hK _ ?_); clear hK K)
      refine wpPure_nil ?_
      refine wpAll_done (by kernel_rfl) ?_
      go_wp2_with fail
      go_loopg [] E0.way.length (fun k wr => ∃ way arr, k = way.length ∧ restL n way = restL n E0.way ∧ arr ++ dueL n way = E1.arr ++ dueL n E0.way ∧ way.length ≤ 100000000 ∧ arr.length + wb way ≤ 100000000 ∧ HasLine G w0 L R p ⟨r, d, q, ws, n, up, ses, ⟨E0.wait, way, E0.arr⟩, ⟨E1.wait, E1.way, arr⟩⟩ wr)
      case atStart => exact ⟨E0.way, E1.arr, rfl, rfl, rfl, hy0, hb0, HasLine.close hM⟩
      case round =>
      clear hM
      obtain ⟨way, arr, hk, h1, h2, h3, h4, hH⟩ := hrel
      obtain ⟨x, hM⟩ := hH.open
      clear hH
      have HK := Lib.hid hk
      have H1 := Lib.hid h1
      have H2 := Lib.hid h2
      clear hk h1 h2
      go_upto_region 14 with fail
      cases way with
      | nil =>
        refine Go.Bul.wp_region_class (Mem _ w0 _ _) (by kernel_rfl) (by kernel_rfl) hM.drew ?_
        repeat ((with_reducible refine wpQuiet_step (fun K hK => ?_)); (first | ((first | ((with_reducible refine quiet_some ?_ ?_); (· rfl)) | ((with_reducible refine quiet_wanted ?_ ?_); (· rfl))); apply Exists.intro; refine ⟨fun w' hM' => ?_, ?_⟩; (· first | (go_simp; rfl) | exact qc hM' | fail | exact ql hM' | exact qp hM')) | ((with_reducible refine quiet_unwanted ?_ ?_); (· rfl))); go_simp; (with_reducible refine hK _ ?_); clear hK K)
        refine wpQuiet_nil ?_
        intro wx hM
        go_wp2_with fail
        go_meet
        have e1 : restL n E0.way = [] := H1.out.symm
        have e2 : E1.arr ++ dueL n E0.way = arr := by rw [← H2.out]; simp [dueL]
        rw [e1, e2]
        exact HasLine.close hM
      | cons bm way =>
        obtain ⟨b, m⟩ := bm
        have hM := Mem.toFront [_, _, _] (Mem.toFront [_, _, _, _, _, _] hM)
        obtain ⟨gp, op, pvs, Ab, cb, hA, hpl, hcp, -, hM⟩ := way_head hM
        simp only [lineCs, List.length_cons] at hM
        rw [hA] at hM
        have HA := Lib.hid hA
        clear hA
        have H3 := Lib.hid h3
        have H4 := Lib.hid h4
        clear h3
        obtain ⟨cp, hcp'⟩ : ∃ cp, x.y0.c = cp := ⟨_, rfl⟩
        rw [hcp'] at hM hcp
        have HC := Lib.hid hcp'
        clear hcp'
        by_cases hm : m ≤ n
        · have cm : decide (m ≤ n) = true := decide_eq_true hm
          have HM := Lib.hid hm
          clear hm
          refine Go.Bul.wp_region_class (Mem _ w0 _ _) (by kernel_rfl) (by kernel_rfl) hM.drew ?_
          repeat ((with_reducible refine wpQuiet_step (fun K hK => ?_)); (first | ((first | ((with_reducible refine quiet_some ?_ ?_); (· rfl)) | ((with_reducible refine quiet_wanted ?_ ?_); (· rfl))); apply Exists.intro; refine ⟨fun w' hM' => ?_, ?_⟩; (· first | (go_simp; rfl) | exact qc hM' | first | exact qo (pk_cells (hM'.thing _ (List.Mem.tail _ (List.Mem.head _)))).1 | exact qo (pk_cells (hM'.thing _ (List.Mem.tail _ (List.Mem.head _)))).2 | exact ql hM' | exact qp hM')) | ((with_reducible refine quiet_unwanted ?_ ?_); (· rfl))); go_simp; (with_reducible refine hK _ ?_); clear hK K)
          refine wpQuiet_nil ?_
          intro wx hM
          go_wp2_with fail
          have hM := hM.drew
          refine wp_region_all (by kernel_rfl) ?_
          refine wpAll_takes [0, 1, 2, 3, 5, 6, 7] (by kernel_rfl) (fun _ _ _ _ _ h => h) (by kernel_rfl) ?_
          simp only [pickOps, List.filterMap_cons, List.filterMap_nil, List.getElem?_cons_zero, List.getElem?_cons_succ]
          repeat ((with_reducible apply wpPure_step); (· rfl); (· (intro w; go_simp; rfl)); intro K hK; go_simp; (with_reducible refine hK _ ?_); clear hK K)
          refine wpPure_nil ?_
          refine wpAll_block (Mem _ w0 _ _) [4, 8, 9, 10, 11] (by kernel_rfl) (by kernel_rfl) hM ?_
          simp only [pickOps, List.filterMap_cons, List.filterMap_nil, List.getElem?_cons_zero, List.getElem?_cons_succ]
          repeat ((with_reducible refine wpQuiet_step (fun K hK => ?_)); (first | ((first | ((with_reducible refine quiet_some ?_ ?_); (· rfl)) | ((with_reducible refine quiet_wanted ?_ ?_); (· rfl))); apply Exists.intro; refine ⟨fun w' hM' => ?_, ?_⟩; (· first | (go_simp; rfl) | exact qc hM' | first | exact qo (pk_cells (hM'.thing _ (List.Mem.tail _ (List.Mem.head _)))).1 | exact qo (pk_cells (hM'.thing _ (List.Mem.tail _ (List.Mem.head _)))).2 | exact ql hM' | exact qp hM')) | ((with_reducible refine quiet_unwanted ?_ ?_); (· rfl))); go_simp; (with_reducible refine hK _ ?_); clear hK K)
          refine wpQuiet_nil ?_
          intro wx hM
          refine wpAll_one 12 rfl (by kernel_rfl) ?_
          have hs := (bT_reads (hM.thing _ (List.Mem.tail _ (List.Mem.tail _ (List.Mem.head _))))).1.src (c := cb) (P := Try.prog) (tx := 82) Try.underlying82 (vals_one _ _)
          refine la (xs := arr) (ys := b) hs hM (by simp [wb] at h4; omega) ?_ (hR := UpdR.head _ _)
          clear hM hs
          intro Ax Nx cx wz hN hM
          refine wpList_then ?_
          go_simp
          refine wpAll_takes [13, 14] (by kernel_rfl) (fun _ _ _ _ _ h => h) (by kernel_rfl) ?_
          simp only [pickOps, List.filterMap_cons, List.filterMap_nil, List.getElem?_cons_zero, List.getElem?_cons_succ]
          repeat ((with_reducible apply wpPure_step); (· rfl); (· (intro w; go_simp; rfl)); intro K hK; go_simp; (with_reducible refine hK _ ?_); clear hK K)
          refine wpPure_nil ?_
          refine wpAll_one 15 rfl (by kernel_rfl) ?_
          refine ls hM ?_ (hX := by exact set_13_12)
          clear hM
          intro wq hM
          refine wpList_then ?_
          refine wpAll_done (by kernel_rfl) ?_
          go_wp2_with (first | ((with_reducible refine at_load ?_); refine lc hM ?_) | ((with_reducible refine at_slice ?_); refine lsl_lo Try.underlying83 size_pkt (k := 1) (by omega) hcp ?_) | ((with_reducible refine at_store ?_); refine ls hM ?_ (hX := by exact set_13_8); clear hM; intro wq hM))
          go_roundg way.length
          case measure => rw [HK.out]; simp
          case rel =>
            obtain rfl := hN.out
            obtain ⟨fx, hM2⟩ := way_tail hM hpl
            have hm := HM.out
            refine ⟨way, arr ++ b, rfl, ?_, ?_, ?_, ?_, HasLine.close (x := { x with y0 := ⟨advA (some ⟨gp, op, none⟩) 1 cp 2, cp - 1⟩, a1 := ⟨Ax, cx⟩, f0 := fx }) (Mem.fromFront [_, _, _, _, _, _] (Mem.fromFront [_, _, _] hM2))⟩
            · rw [← H1.out, restL, if_pos hm]
            · rw [← H2.out, dueL, if_pos hm, List.append_assoc]
            · have := H3.out; simp at this; omega
            · simp [wb] at h4 ⊢; omega
        · have cm : decide (m ≤ n) = false := decide_eq_false hm
          have HM := Lib.hid hm
          clear hm
          refine Go.Bul.wp_region_class (Mem _ w0 _ _) (by kernel_rfl) (by kernel_rfl) hM.drew ?_
          repeat ((with_reducible refine wpQuiet_step (fun K hK => ?_)); (first | ((first | ((with_reducible refine quiet_some ?_ ?_); (· rfl)) | ((with_reducible refine quiet_wanted ?_ ?_); (· rfl))); apply Exists.intro; refine ⟨fun w' hM' => ?_, ?_⟩; (· first | (go_simp; rfl) | exact qc hM' | first | exact qo (pk_cells (hM'.thing _ (List.Mem.tail _ (List.Mem.head _)))).1 | exact qo (pk_cells (hM'.thing _ (List.Mem.tail _ (List.Mem.head _)))).2 | exact ql hM' | exact qp hM')) | ((with_reducible refine quiet_unwanted ?_ ?_); (· rfl))); go_simp; (with_reducible refine hK _ ?_); clear hK K)
          refine wpQuiet_nil ?_
          intro wx hM
          go_wp2_with fail
          go_meet
          have hm : ¬ m ≤ n := by have := HM.out; omega
          have e1 : restL n E0.way = (b, m) :: way := by rw [← H1.out, restL, if_neg hm]
          have e2 : E1.arr ++ dueL n E0.way = arr := by rw [← H2.out, dueL, if_neg hm, List.append_nil]
          rw [e1, e2]
          rw [← HA.out, ← HC.out] at hM
          obtain ⟨fx, hM2⟩ := way_shut hM hpl
          exact HasLine.close (x := { x with f0 := fx }) (Mem.fromFront [_, _, _, _, _, _] (Mem.fromFront [_, _, _] hM2))
    case rest =>
    clear hM
    obtain ⟨x, hM⟩ := HasLine.open hcut
    clear hcut
    go_wp2_with fail
    rw [rounds_succ]
    go_upto_block 3 with (first | ((first | with_reducible refine at_load ?_ | ((with_reducible refine at_load_g ?_ ?_); (· rfl))); first | refine lc hM ?_ | refine ll hM ?_ | refine lp hM ?_) | ((with_reducible refine at_store ?_); first | (refine ls hM ?_; clear hM; intro wx hM) | (refine lw hM ?_; clear hM; intro wx hM) | (refine lt hM ?_; clear hM; intro wx hM)) | ((with_reducible refine at_alloc ?_); refine lz hM ?_; clear hM; intro gx wx hM) | ((with_reducible refine at_box ?_); refine lb hM ?_; clear hM; intro gx wx hM))
    go_cut [5, 6, 7] (fun _ _ _ wc => HasLine G w0 L R p ⟨r, d, q, ws, n, up, ses, ⟨E0.wait, restL n E0.way, E0.arr ++ dueL n E1.way⟩, ⟨E1.wait, restL n E1.way, E1.arr ++ dueL n E0.way⟩⟩ wc)
    case first =>
      go_upto_region 13 with (first | ((first | with_reducible refine at_load ?_ | ((with_reducible refine at_load_g ?_ ?_); (· rfl))); first | refine lc hM ?_ | refine ll hM ?_ | refine lp hM ?_) | ((with_reducible refine at_store ?_); first | (refine ls hM ?_; clear hM; intro wx hM) | (refine lw hM ?_; clear hM; intro wx hM) | (refine lt hM ?_; clear hM; intro wx hM)) | ((with_reducible refine at_alloc ?_); refine lz hM ?_; clear hM; intro gx wx hM) | ((with_reducible refine at_box ?_); refine lb hM ?_; clear hM; intro gx wx hM))
      have hM := hM.drew
      refine wp_region_all (by kernel_rfl) ?_
      refine wpAll_takes [0, 1, 2, 3, 4, 5, 6, 7, 8, 9, 10, 11, 12] (by kernel_rfl) (fun _ _ _ _ _ h => h) (by kernel_rfl) ?_
      simp only [pickOps, List.filterMap_cons, List.filterMap_nil, List.getElem?_cons_zero, List.getElem?_cons_succ]
      repeat ((with_reducible apply wpPure_step); (· rfl); (· (intro w; go_simp; rfl)); intro K hK; go_simp; (with_reducible refine hK _ ?_); clear hK K)
      refine wpPure_nil ?_
      refine wpAll_done (by kernel_rfl) ?_
      go_wp2_with fail
      go_loopg [] E1.way.length (fun k wr => ∃ way arr, k = way.length ∧ restL n way = restL n E1.way ∧ arr ++ dueL n way = E0.arr ++ dueL n E1.way ∧ way.length ≤ 100000000 ∧ arr.length + wb way ≤ 100000000 ∧ HasLine G w0 L R p ⟨r, d, q, ws, n, up, ses, ⟨E0.wait, restL n E0.way, arr⟩, ⟨E1.wait, way, E1.arr ++ dueL n E0.way⟩⟩ wr)
      case atStart => exact ⟨E1.way, E0.arr, rfl, rfl, rfl, hy1, hb1, HasLine.close hM⟩
      case round =>
      clear hM
      obtain ⟨way, arr, hk, h1, h2, h3, h4, hH⟩ := hrel
      obtain ⟨x, hM⟩ := hH.open
      clear hH
      have HK := Lib.hid hk
      have H1 := Lib.hid h1
      have H2 := Lib.hid h2
      clear hk h1 h2
      go_upto_region 14 with fail
      cases way with
      | nil =>
        refine Go.Bul.wp_region_class (Mem _ w0 _ _) (by kernel_rfl) (by kernel_rfl) hM.drew ?_
        repeat ((with_reducible refine wpQuiet_step (fun K hK => ?_)); (first | ((first | ((with_reducible refine quiet_some ?_ ?_); (· rfl)) | ((with_reducible refine quiet_wanted ?_ ?_); (· rfl))); apply Exists.intro; refine ⟨fun w' hM' => ?_, ?_⟩; (· first | (go_simp; rfl) | exact qc hM' | fail | exact ql hM' | exact qp hM')) | ((with_reducible refine quiet_unwanted ?_ ?_); (· rfl))); go_simp; (with_reducible refine hK _ ?_); clear hK K)
        refine wpQuiet_nil ?_
        intro wx hM
        go_wp2_with fail
        go_meet
        have e1 : restL n E1.way = [] := H1.out.symm
        have e2 : E0.arr ++ dueL n E1.way = arr := by rw [← H2.out]; simp [dueL]
        rw [e1, e2]
        exact HasLine.close hM
      | cons bm way =>
        obtain ⟨b, m⟩ := bm
        have hM := Mem.toFront [_, _, _, _, _] (Mem.toFront [_, _, _] hM)
        obtain ⟨gp, op, pvs, Ab, cb, hA, hpl, hcp, -, hM⟩ := way_head hM
        simp only [lineCs, List.length_cons] at hM
        rw [hA] at hM
        have HA := Lib.hid hA
        clear hA
        have H3 := Lib.hid h3
        have H4 := Lib.hid h4
        clear h3
        obtain ⟨cp, hcp'⟩ : ∃ cp, x.y1.c = cp := ⟨_, rfl⟩
        rw [hcp'] at hM hcp
        have HC := Lib.hid hcp'
        clear hcp'
        by_cases hm : m ≤ n
        · have cm : decide (m ≤ n) = true := decide_eq_true hm
          have HM := Lib.hid hm
          clear hm
          refine Go.Bul.wp_region_class (Mem _ w0 _ _) (by kernel_rfl) (by kernel_rfl) hM.drew ?_
          repeat ((with_reducible refine wpQuiet_step (fun K hK => ?_)); (first | ((first | ((with_reducible refine quiet_some ?_ ?_); (· rfl)) | ((with_reducible refine quiet_wanted ?_ ?_); (· rfl))); apply Exists.intro; refine ⟨fun w' hM' => ?_, ?_⟩; (· first | (go_simp; rfl) | exact qc hM' | first | exact qo (pk_cells (hM'.thing _ (List.Mem.tail _ (List.Mem.head _)))).1 | exact qo (pk_cells (hM'.thing _ (List.Mem.tail _ (List.Mem.head _)))).2 | exact ql hM' | exact qp hM')) | ((with_reducible refine quiet_unwanted ?_ ?_); (· rfl))); go_simp; (with_reducible refine hK _ ?_); clear hK K)
          refine wpQuiet_nil ?_
          intro wx hM
          go_wp2_with fail
          have hM := hM.drew
          refine wp_region_all (by kernel_rfl) ?_
          refine wpAll_takes [0, 1, 2, 3, 5, 6, 7] (by kernel_rfl) (fun _ _ _ _ _ h => h) (by kernel_rfl) ?_
          simp only [pickOps, List.filterMap_cons, List.filterMap_nil, List.getElem?_cons_zero, List.getElem?_cons_succ]
          repeat ((with_reducible apply wpPure_step); (· rfl); (· (intro w; go_simp; rfl)); intro K hK; go_simp; (with_reducible refine hK _ ?_); clear hK K)
          refine wpPure_nil ?_
          refine wpAll_block (Mem _ w0 _ _) [4, 8, 9, 10, 11] (by kernel_rfl) (by kernel_rfl) hM ?_
          simp only [pickOps, List.filterMap_cons, List.filterMap_nil, List.getElem?_cons_zero, List.getElem?_cons_succ]
          repeat ((with_reducible refine wpQuiet_step (fun K hK => ?_)); (first | ((first | ((with_reducible refine quiet_some ?_ ?_); (· rfl)) | ((with_reducible refine quiet_wanted ?_ ?_); (· rfl))); apply Exists.intro; refine ⟨fun w' hM' => ?_, ?_⟩; (· first | (go_simp; rfl) | exact qc hM' | first | exact qo (pk_cells (hM'.thing _ (List.Mem.tail _ (List.Mem.head _)))).1 | exact qo (pk_cells (hM'.thing _ (List.Mem.tail _ (List.Mem.head _)))).2 | exact ql hM' | exact qp hM')) | ((with_reducible refine quiet_unwanted ?_ ?_); (· rfl))); go_simp; (with_reducible refine hK _ ?_); clear hK K)
          refine wpQuiet_nil ?_
          intro wx hM
          refine wpAll_one 12 rfl (by kernel_rfl) ?_
          have hs := (bT_reads (hM.thing _ (List.Mem.tail _ (List.Mem.tail _ (List.Mem.head _))))).1.src (c := cb) (P := Try.prog) (tx := 82) Try.underlying82 (vals_one _ _)
          refine la (xs := arr) (ys := b) hs hM (by simp [wb] at h4; omega) ?_ (hR := UpdR.head _ _)
          clear hM hs
          intro Ax Nx cx wz hN hM
          refine wpList_then ?_
          go_simp
          refine wpAll_takes [13, 14] (by kernel_rfl) (fun _ _ _ _ _ h => h) (by kernel_rfl) ?_
          simp only [pickOps, List.filterMap_cons, List.filterMap_nil, List.getElem?_cons_zero, List.getElem?_cons_succ]
          repeat ((with_reducible apply wpPure_step); (· rfl); (· (intro w; go_simp; rfl)); intro K hK; go_simp; (with_reducible refine hK _ ?_); clear hK K)
          refine wpPure_nil ?_
          refine wpAll_one 15 rfl (by kernel_rfl) ?_
          refine ls hM ?_ (hX := by exact set_13_9)
          clear hM
          intro wq hM
          refine wpList_then ?_
          refine wpAll_done (by kernel_rfl) ?_
          go_wp2_with (first | ((with_reducible refine at_load ?_); refine lc hM ?_) | ((with_reducible refine at_slice ?_); refine lsl_lo Try.underlying83 size_pkt (k := 1) (by omega) hcp ?_) | ((with_reducible refine at_store ?_); refine ls hM ?_ (hX := by exact set_13_11); clear hM; intro wq hM))
          go_roundg way.length
          case measure => rw [HK.out]; simp
          case rel =>
            obtain rfl := hN.out
            obtain ⟨fx, hM2⟩ := way_tail hM hpl
            have hm := HM.out
            refine ⟨way, arr ++ b, rfl, ?_, ?_, ?_, ?_, HasLine.close (x := { x with y1 := ⟨advA (some ⟨gp, op, none⟩) 1 cp 2, cp - 1⟩, a0 := ⟨Ax, cx⟩, f1 := fx }) (Mem.fromFront [_, _, _] (Mem.fromFront [_, _, _, _, _] hM2))⟩
            · rw [← H1.out, restL, if_pos hm]
            · rw [← H2.out, dueL, if_pos hm, List.append_assoc]
            · have := H3.out; simp at this; omega
            · simp [wb] at h4 ⊢; omega
        · have cm : decide (m ≤ n) = false := decide_eq_false hm
          have HM := Lib.hid hm
          clear hm
          refine Go.Bul.wp_region_class (Mem _ w0 _ _) (by kernel_rfl) (by kernel_rfl) hM.drew ?_
          repeat ((with_reducible refine wpQuiet_step (fun K hK => ?_)); (first | ((first | ((with_reducible refine quiet_some ?_ ?_); (· rfl)) | ((with_reducible refine quiet_wanted ?_ ?_); (· rfl))); apply Exists.intro; refine ⟨fun w' hM' => ?_, ?_⟩; (· first | (go_simp; rfl) | exact qc hM' | first | exact qo (pk_cells (hM'.thing _ (List.Mem.tail _ (List.Mem.head _)))).1 | exact qo (pk_cells (hM'.thing _ (List.Mem.tail _ (List.Mem.head _)))).2 | exact ql hM' | exact qp hM')) | ((with_reducible refine quiet_unwanted ?_ ?_); (· rfl))); go_simp; (with_reducible refine hK _ ?_); clear hK K)
          refine wpQuiet_nil ?_
          intro wx hM
          go_wp2_with fail
          go_meet
          have hm : ¬ m ≤ n := by have := HM.out; omega
          have e1 : restL n E1.way = (b, m) :: way := by rw [← H1.out, restL, if_neg hm]
          have e2 : E0.arr ++ dueL n E1.way = arr := by rw [← H2.out, dueL, if_neg hm, List.append_nil]
          rw [e1, e2]
          rw [← HA.out, ← HC.out] at hM
          obtain ⟨fx, hM2⟩ := way_shut hM hpl
          exact HasLine.close (x := { x with f1 := fx }) (Mem.fromFront [_, _, _] (Mem.fromFront [_, _, _, _, _] hM2))
    case rest =>
    clear hM
    obtain ⟨x, hM⟩ := HasLine.open hcut
    clear hcut
    go_wp2_with fail
    rw [rounds_succ]
    go_wp2_with fail
    go_meet
    rw [← HU.out, HAr.out]
    exact HasLine.close hM
  case rest =>
  clear hM wr1 HN HK HU hn
  obtain ⟨r, d, q, ws, now, up, ses, E0, E1⟩ := U
  obtain ⟨x, hM⟩ := hcut.open
  clear hcut
  have h0 := HO.out.p1
  have h1 := HO.out.now1
  have h2 := HO.out.p2
  have h3 := HO.out.now2
  have h4 := HO.out.ws
  have h5 := HO.out.ses1
  have h6 := HO.out.ses2
  simp only at h0 h1 h2 h3 h4 h5 h6
  clear HO
  have hq2 : q ≤ 9223372036854775807 := by omega
  have hn2 : now ≤ 9223372036854775807 := by omega
  have hw2 : ws.length ≤ 1000 := by omega
  have ws1 : IntKind.i64.wrap (ses + 1) = ses + 1 := IntWalk.i64_in _ ⟨by omega, by omega⟩
  clear h2 h3 h4 h5 h6
  go_upto_region 18 with fail
  obtain ⟨cc, hcc⟩ : ∃ cc, conP (phase q now) ws = cc := ⟨_, rfl⟩
  have hcon := fun (A : Option Addr) (n c : Nat) (w : World) => connected_any r d q now A n c ws w h0 h1 hn2 hq2
  rw [hcc] at hcon
  have HC := Lib.hid hcon
  have HE := Lib.hid hcc
  clear hcon hcc
  refine Go.Bul.wp_region_class (Mem _ w0 _ _) (by kernel_rfl) (by kernel_rfl) hM.drew ?_
  repeat ((with_reducible refine wpQuiet_step (fun K hK => ?_)); (first | ((first | ((with_reducible refine quiet_some ?_ ?_); (· rfl)) | ((with_reducible refine quiet_wanted ?_ ?_); (· rfl))); apply Exists.intro; refine ⟨fun w' hM' => ?_, ?_⟩; (· first | (go_simp; rfl) | exact qc hM' | (go_simp; with_reducible refine at_calls ?_; exact quiet_mem_call hM' (HC.out _ _ _ _ hw2 (winT_wins (hM'.thing _ (List.Mem.head _))))) | exact ql hM' | exact qp hM')) | ((with_reducible refine quiet_unwanted ?_ ?_); (· rfl))); go_simp; (with_reducible refine hK _ ?_); clear hK K)
  refine wpQuiet_nil ?_
  intro wx hM
  clear HC
  cases up with
  | true =>
    cases cc with
    | true =>
      have ht : turnS ⟨r, d, q, ws, now, true, ses, E0, E1⟩ = ⟨r, d, q, ws, now, true, ses, E0, E1⟩ := by simp [turnS, HE.out]
      have HH := Lib.hid ht
      clear ht
      go_wp2_with (first | ((first | with_reducible refine at_load ?_ | ((with_reducible refine at_load_g ?_ ?_); (· rfl))); first | refine lc hM ?_ | refine ll hM ?_ | refine lp hM ?_) | ((with_reducible refine at_store ?_); first | (refine ls hM ?_; clear hM; intro wx hM) | (refine lw hM ?_; clear hM; intro wx hM) | (refine lt hM ?_; clear hM; intro wx hM)) | ((with_reducible refine at_alloc ?_); refine lz hM ?_; clear hM; intro gx wx hM) | ((with_reducible refine at_box ?_); refine lb hM ?_; clear hM; intro gx wx hM))
      (try simp only [Exit.inBlock, Exit.then])
      refine bodyPost_end (results_none rfl _ _ _) rfl ?_
      rw [HH.out]
      exact ⟨rfl, HasLine.close hM⟩
    | false =>
      have ht : turnS ⟨r, d, q, ws, now, true, ses, E0, E1⟩ = downS ⟨r, d, q, ws, now, true, ses, E0, E1⟩ := by simp [turnS, HE.out]
      have HH := Lib.hid ht
      clear ht
      have hD := Lib.hid (down_any (HasLine.close hM))
      go_upto_region 20 with (first | ((first | with_reducible refine at_load ?_ | ((with_reducible refine at_load_g ?_ ?_); (· rfl))); first | refine lc hM ?_ | refine ll hM ?_ | refine lp hM ?_) | ((with_reducible refine at_store ?_); first | (refine ls hM ?_; clear hM; intro wx hM) | (refine lw hM ?_; clear hM; intro wx hM) | (refine lt hM ?_; clear hM; intro wx hM)) | ((with_reducible refine at_alloc ?_); refine lz hM ?_; clear hM; intro gx wx hM) | ((with_reducible refine at_box ?_); refine lb hM ?_; clear hM; intro gx wx hM))
      clear hM
      go_upto_region 21 with (first | ((refine hD.out.mono ?_); rintro e w1 ⟨rfl, hH⟩))
      clear hD
      obtain ⟨x, hM⟩ := hH.open
      clear hH
      simp only [downS, lineCs] at hM
      go_wp2_with (first | ((first | with_reducible refine at_load ?_ | ((with_reducible refine at_load_g ?_ ?_); (· rfl))); first | refine lc hM ?_ | refine ll hM ?_ | refine lp hM ?_) | ((with_reducible refine at_store ?_); first | (refine ls hM ?_; clear hM; intro wx hM) | (refine lw hM ?_; clear hM; intro wx hM) | (refine lt hM ?_; clear hM; intro wx hM)) | ((with_reducible refine at_alloc ?_); refine lz hM ?_; clear hM; intro gx wx hM) | ((with_reducible refine at_box ?_); refine lb hM ?_; clear hM; intro gx wx hM))
      (try simp only [Exit.inBlock, Exit.then])
      refine bodyPost_end (results_none rfl _ _ _) rfl ?_
      rw [HH.out]
      exact ⟨rfl, HasLine.close hM⟩
  | false =>
    cases cc with
    | true =>
      have ht : turnS ⟨r, d, q, ws, now, false, ses, E0, E1⟩ = ⟨r, d, q, ws, now, true, ses + 1, ⟨E0.wait, E0.way, []⟩, ⟨E1.wait, E1.way, []⟩⟩ := by simp [turnS, upS, HE.out]
      have HH := Lib.hid ht
      clear ht
      go_upto_block 6 with (first | ((with_reducible refine at_load ?_); refine lc hM ?_) | (refine ls hM ?_ (hX := by first | with_reducible exact set_13_5 | with_reducible exact set_13_6 | with_reducible exact set_13_9 | with_reducible exact set_13_12); clear hM; intro wq hM))
      go_wp2_with fail
      refine wp_loop_rounds 3 ?_
      rw [rounds_succ]
      go_wp2_with (first | (refine ls hM ?_ (hX := by first | with_reducible exact set_13_5 | with_reducible exact set_13_6 | with_reducible exact set_13_9 | with_reducible exact set_13_12); clear hM; intro wq hM))
      rw [rounds_succ]
      go_wp2_with (first | (refine ls hM ?_ (hX := by first | with_reducible exact set_13_5 | with_reducible exact set_13_6 | with_reducible exact set_13_9 | with_reducible exact set_13_12); clear hM; intro wq hM))
      rw [rounds_succ]
      go_wp2_with fail
      (try simp only [Exit.inBlock, Exit.then])
      refine bodyPost_end (results_none rfl _ _ _) rfl ?_
      rw [HH.out]
      have hM := hM.turn (UpdR.tail _ (UpdR.tail _ (UpdR.tail _ (UpdR.head _ _)))) (becomes_zero none (KeptBut.refl _ _))
      have hM := hM.turn (UpdR.tail _ (UpdR.tail _ (UpdR.tail _ (UpdR.tail _ (UpdR.tail _ (UpdR.tail _ (UpdR.head _ _))))))) (becomes_zero none (KeptBut.refl _ _))
      exact ⟨rfl, HasLine.close (x := ⟨x.cv, x.w0, x.y0, ⟨none, 0⟩, x.w1, x.y1, ⟨none, 0⟩, x.f0, x.f1⟩) hM⟩
    | false =>
      have ht : turnS ⟨r, d, q, ws, now, false, ses, E0, E1⟩ = ⟨r, d, q, ws, now, false, ses, E0, E1⟩ := by simp [turnS, HE.out]
      have HH := Lib.hid ht
      clear ht
      go_wp2_with (first | ((first | with_reducible refine at_load ?_ | ((with_reducible refine at_load_g ?_ ?_); (· rfl))); first | refine lc hM ?_ | refine ll hM ?_ | refine lp hM ?_) | ((with_reducible refine at_store ?_); first | (refine ls hM ?_; clear hM; intro wx hM) | (refine lw hM ?_; clear hM; intro wx hM) | (refine lt hM ?_; clear hM; intro wx hM)) | ((with_reducible refine at_alloc ?_); refine lz hM ?_; clear hM; intro gx wx hM) | ((with_reducible refine at_box ?_); refine lb hM ?_; clear hM; intro gx wx hM))
      (try simp only [Exit.inBlock, Exit.then])
      refine bodyPost_end (results_none rfl _ _ _) rfl ?_
      rw [HH.out]
      exact ⟨rfl, HasLine.close hM⟩
end
end Go.Proofs.Ytenflgbaibjeoaa
