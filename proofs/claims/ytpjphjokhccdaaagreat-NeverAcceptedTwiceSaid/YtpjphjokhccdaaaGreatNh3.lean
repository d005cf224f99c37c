/- Seat n: the library's insertion sort, SortFunc of at most 12 elements, at bulletin/history.Entry: the row is put into another order. -/
import Derived.Test.YtpjphjokhccdaaaGreatNh0
namespace Go.Proofs.YtpjphjokhccdaaaGreat
open Go Go.RowKit Go.Bul Go.Thg Go.Lin Go.Maps
theorem nqr3 {w : World} {o : Oper} {a : Act} {C : World → Prop} {x : Operand} {g i : Nat} {X : Array Value} (hX : ∀ j u, X[j]? = some u → w.cell? ⟨g, i + j, none⟩ = some u) (hs : X.size = 36) (ho : o.op = .load 40 x := by rfl) (hx : a.eval x = .pointer (some ⟨g, i, none⟩) := by rfl) : o.quietAt Tryz.prog a C w (.agg X) := by
  obtain ⟨d, hu, hd, hi⟩ := row_hent.ex
  have hl : (loadCells ⟨g, i, none⟩ X.toList.length).run Tryz.prog w = .ok X.toList.toArray w :=
    run_loadCells_list (P := Tryz.prog) w ⟨g, i, none⟩ X.toList (fun j u hu => by rw [addr_at]; exact hX j u (by simpa using hu))
  rw [Array.length_toList, hs] at hl
  simp only [Array.toArray_toList] at hl
  have hrun : (loadVar 40 ⟨g, i, none⟩).run Tryz.prog w = .ok (.agg X) w := by simp [loadVar, Sem.run_bind, run_isAgg hu hd, Go.Bul.run_sizeOf hi, hl]
  unfold Oper.quietAt execOp
  simp only [ho, hx, Instr.loadAt, Instr.sureAddr, Sem.run_bind, Sem.run_pure, Result.andThen_ok, hrun]
  exact ⟨rfl, rfl⟩
section
variable {w w0 : World} {G : List Nat} {L : List Ent} {R : List Thing} {F : Thing → List Thing}
set_option maxRecDepth 20000 in
set_option maxHeartbeats 4000000 in
theorem ins3_any (g off n c : Nat) (l : List El) (hn0 : 0 < n) (hn : n ≤ 12) (hM : Mem G w0 L R w) (hR : UpdR (elT 40 4 (.slice (some ⟨g, off, none⟩) n c) l) R F)
    (hcmp : ∀ (x y : El) (w : World) (l' : List El), l'.Perm l → Mem G w0 L (F (elT 40 4 (.slice (some ⟨g, off, none⟩) n c) l')) w → x ∈ l → y ∈ l → Calls Tryz.prog 54 #[.agg (elC x), .agg (elC y)] w fun e w' => (∃ z, e = .returned (.int .i64 z)) ∧ Below w.heap.size w w') :
    Calls Tryz.prog 91 #[.slice (some ⟨g, off, none⟩) n c, .int .i64 0, .int .i64 (n : Nat), .func (.func 54) #[] #[]] w fun e w' => (∃ v, e = .returned v) ∧ ∃ l', l'.Perm l ∧ Mem G w0 L (F (elT 40 4 (.slice (some ⟨g, off, none⟩) n c) l')) w' := by
  have HCMP := Lib.hid hcmp
  have HR := Lib.hid (fun l' => mem_of_updR (hR.again (elT 40 4 (.slice (some ⟨g, off, none⟩) n c) l')))
  have HU := Lib.hid (fun l' => hR.again (elT 40 4 (.slice (some ⟨g, off, none⟩) n c) l'))
  have hl := (elT_len (hM.thing _ (mem_of_updR hR))).1
  have HL := Lib.hid hl
  have HN := Lib.hid hn
  have e0 : F (elT 40 4 (.slice (some ⟨g, off, none⟩) n c) l) = R := by obtain ⟨A, B, h1, h2⟩ := hR; rw [h2, h1]
  rw [← e0] at hM
  have n0 : (0 : Int) ≤ (n : Int) := Int.natCast_nonneg _
  have n1 : (n : Int) ≤ 12 := by omega
  clear hcmp hR hn hn0 hl e0
  go_enter Tryz.func91, Tryz.ntmps91
  go_wp2_with fail
  have M0 := Lib.hid hM
  clear hM
  go_loopw [8] (fun i wr => ∃ q : Nat, 1 ≤ q ∧ q ≤ 12 ∧ i = .int .i64 (q : Nat) ∧ ∃ l', Hid (l'.Perm l) ∧ Mem G w0 L (F (elT 40 4 (.slice (some ⟨g, off, none⟩) n c) l')) wr) (fun i _ => 13 - (intOf i).toNat)
  case atStart => exact ⟨1, by omega, by omega, rfl, l, Lib.hid (List.Perm.refl _), M0.out⟩
  case round =>
    clear M0
    obtain ⟨q, hq1, hq2, rfl, l', hp, hM⟩ := hrel
    have q0 : (0 : Int) ≤ (q : Int) := Int.natCast_nonneg _
    have q1 : (q : Int) ≤ 12 := by omega
    by_cases hlt : q < n
    · have hlt' : (q : Int) < (n : Int) := by omega
      have HQ := Lib.hid hlt
      go_wp2_with fail
      have M0 := Lib.hid hM
      clear hM
      go_loopw [9] (fun i wr => ∃ p : Nat, p ≤ q ∧ i = .int .i64 (p : Nat) ∧ ∃ l', Hid (l'.Perm l) ∧ Mem G w0 L (F (elT 40 4 (.slice (some ⟨g, off, none⟩) n c) l')) wr) (fun i _ => (intOf i).toNat)
      case atStart => exact ⟨q, Nat.le_refl _, rfl, l', hp, M0.out⟩
      case round =>
        clear M0 hp
        obtain ⟨p, hpq, rfl, l', hp, hM⟩ := hrel
        rcases Nat.eq_zero_or_pos p with hp0 | hp0
        · subst hp0
          go_upto_region 4 with fail
          refine wp_region_allHB hM (by kernel_rfl) ?_
          clear hM
          intro wd hM
          have HM0 := Lib.hid hM
          have hS := Below.refl wd.heap.size wd
          refine wpAllH_takes [0, 1, 2, 3, 4, 5, 6, 7, 8, 9, 10, 11, 12, 13, 14, 15, 16] (by kernel_rfl) (fun _ _ _ _ _ h => h) hS (by kernel_rfl) ?_
          simp only [pickOps, List.filterMap_cons, List.filterMap_nil, List.getElem?_cons_zero, List.getElem?_cons_succ]
          repeat (first | ((with_reducible apply wpHeld_stepG); (· rfl); (· (intro w hSw; first | (go_simp; rfl) | (fail))); intro K hK; go_simp; (with_reducible refine hK _ ?_); clear hK K) | ((with_reducible apply wpHeld_stepU); (· rfl); intro K hK; go_simp; (with_reducible refine hK _ ?_); clear hK K))
          refine wpHeld_nil ?_
          refine wpAllH_done (by kernel_rfl) ?_
          go_wp2_with fail
          go_roundw
          case rel => exact ⟨q + 1, by omega, by have := HQ.out; have := HN.out; omega, by go_num, l', hp, hM⟩
          case measure => simp [intOf]; omega
        · obtain ⟨m, rfl⟩ : ∃ m, p = m + 1 := ⟨p - 1, by omega⟩
          have m0 : (0 : Int) ≤ (m : Int) := Int.natCast_nonneg _
          have m1 : (m : Int) < (n : Int) := by omega
          have m2 : (m : Int) + 1 < (n : Int) := by omega
          have wr1 : IntKind.i64.wrap ((m : Int) + 1 - 1) = (m : Int) := by rw [Int.add_sub_cancel]; exact IntWalk.i64_in _ ⟨by omega, by omega⟩
          have hml : m + 1 < l'.length := by rw [hp.out.length_eq]; have := HL.out; omega
          rw [show ((m + 1 : Nat) : Int) = (m : Int) + 1 by omega]
          have HC := Lib.hid (fun w1 (hM : Mem G w0 L (F (elT 40 4 (.slice (some ⟨g, off, none⟩) n c) l')) w1) (j : Nat) (hj : j < l'.length) => show ∀ i u, (elC l'[j])[i]? = some u → w1.cell? ⟨g, off + j * 36 + i, none⟩ = some u from fun i u hu => by
            obtain ⟨g', off', hA, _, hc⟩ := elT_at (hM.thing _ (HR.out l')) j hj
            injection hA with hA
            injection hA with h1 h2
            subst h1 h2
            exact hc j hj i u hu)
          have wr2 : IntKind.i64.wrap (m : Int) = (m : Int) := IntWalk.i64_in _ ⟨by omega, by omega⟩
          have HZ := Lib.hid (fun (j : Nat) (hj : j < l'.length) => show (elC l'[j]).size = 36 by rw [stC_size, ((hM.thing _ (HR.out l')).2 _ (List.getElem_mem hj)).1])
          have HML := Lib.hid hml
          have HPQ := Lib.hid hpq
          clear hml hpq hlt'
          go_upto_region 4 with fail
          refine wp_region_allHB hM (by kernel_rfl) ?_
          clear hM
          intro wd hM
          have HM0 := Lib.hid hM
          have hS := Below.refl wd.heap.size wd
          refine wpAllH_takes [0, 1, 2, 3, 4, 5, 6, 7, 8, 9, 10, 11, 12, 13] (by kernel_rfl) (fun _ _ _ _ _ h => h) hS (by kernel_rfl) ?_
          simp only [pickOps, List.filterMap_cons, List.filterMap_nil, List.getElem?_cons_zero, List.getElem?_cons_succ]
          repeat ((with_reducible apply wpHeld_stepG); (· rfl); (· (intro wq hSw; first | (go_simp; rfl) | exact yields_load (C := fun _ => True) (nqr3 (HC.out _ (HM0.out.step hSw) (m + 1) HML.out) (HZ.out _ _)) rfl | exact yields_load (C := fun _ => True) (nqr3 (HC.out _ (HM0.out.step hSw) m (Nat.lt_of_succ_lt HML.out)) (HZ.out _ _)) rfl)); intro K hK; go_simp; (with_reducible refine hK _ ?_); clear hK K)
          refine wpHeld_nil ?_
          refine wpAllH_one 14 rfl (by kernel_rfl) ?_
          refine wpList_wanted rfl ?_
          go_wp2_with fail
          have hm0 := Nat.lt_of_succ_lt HML.out
          have hx1 := List.getElem_mem HML.out
          have hx2 := List.getElem_mem (Nat.lt_of_succ_lt HML.out)
          refine (HCMP.out (l'[m + 1]'HML.out) (l'[m]'hm0) wd l' hp.out HM0.out (hp.out.mem_iff.1 hx1) (hp.out.mem_iff.1 hx2)).mono ?_
          rintro e w1 ⟨⟨z, rfl⟩, hb⟩
          clear hx1 hx2 hm0
          replace hM := hM.step hb
          go_wp2_with fail
          refine then_normal ⟨hb, ?_⟩
          clear hS
          have hS := hb
          clear hb
          by_cases hz : z < 0
          · have z1 : decide (z < 0) = true := decide_eq_true hz
            clear hz
            refine wpAllH_takes [15, 16] (by kernel_rfl) (fun _ _ _ _ _ h => h) hS (by kernel_rfl) ?_
            simp only [pickOps, List.filterMap_cons, List.filterMap_nil, List.getElem?_cons_zero, List.getElem?_cons_succ]
            repeat ((with_reducible apply wpHeld_stepG); (· rfl); (· (intro w hSw; first | (go_simp; rfl) | (fail))); intro K hK; go_simp; (with_reducible refine hK _ ?_); clear hK K)
            refine wpHeld_nil ?_
            clear hS HM0
            refine wpAllH_done (by kernel_rfl) ?_
            go_upto_region 6 with fail
            replace hM := hM.drew
            refine wp_region_all (by kernel_rfl) ?_
            generalize w1.drew = wd2 at hM ⊢
            refine wpAll_takes [0, 1, 2, 3, 4, 5, 6, 7, 8, 10, 11, 12] (by kernel_rfl) (fun _ _ _ _ _ h => h) (by kernel_rfl) ?_
            simp only [pickOps, List.filterMap_cons, List.filterMap_nil, List.getElem?_cons_zero, List.getElem?_cons_succ]
            repeat ((with_reducible apply wpPure_step); (· rfl); (· (intro w; go_simp; rfl)); intro K hK; go_simp; (with_reducible refine hK _ ?_); clear hK K)
            refine wpPure_nil ?_
            refine wpAll_of_T (fun w' => Below wd2.heap.size wd2 w') 15 ?_
            have hS := Below.refl wd2.heap.size wd2
            have HM0 := Lib.hid hM
            refine wpAllT_takes [9, 13, 14] (by kernel_rfl) (fun _ _ _ _ _ h => h) hS (by kernel_rfl) ?_
            simp only [pickOps, List.filterMap_cons, List.filterMap_nil, List.getElem?_cons_zero, List.getElem?_cons_succ]
            repeat ((with_reducible apply wpHeld_step); (· rfl); (· (intro wq hSw; first | (go_simp; rfl) | (have hM' := HM0.out.step hSw; first | exact yields_load (C := fun _ => True) (nqc hM') rfl | exact yields_load (C := fun _ => True) (nql hM') rfl | exact yields_load (C := fun _ => True) (nqp hM') rfl | first | exact yields_load (C := fun _ => True) (nqr3 (HC.out _ (HM0.out.step hSw) (m + 1) HML.out) (HZ.out _ _)) rfl | exact yields_load (C := fun _ => True) (nqr3 (HC.out _ (HM0.out.step hSw) m (Nat.lt_of_succ_lt HML.out)) (HZ.out _ _)) rfl))); intro K hK; go_simp; (with_reducible refine hK _ ?_); clear hK K)
            refine wpHeld_nil ?_
            have hU := (hM.thing _ (HR.out l')).2
            have u1 := hU _ (List.getElem_mem HML.out)
            have u2 := hU _ (List.getElem_mem (Nat.lt_of_succ_lt HML.out))
            have hsp := @List.set_set_perm _ l' (m + 1) m HML.out (Nat.lt_of_succ_lt HML.out)
            have HX := Lib.hid hsp
            have HM1 := Lib.hid (Nat.lt_of_succ_lt HML.out)
            have HU1 := Lib.hid u1
            have HU2 := Lib.hid u2
            clear hU u1 u2 hsp
            refine wpAllT_one 15 rfl (by kernel_rfl) ?_
            refine nse (i := m + 1) (j := (l'[m]'HM1.out).1) (tl := (l'[m]'HM1.out).2) hM ely_hent HML.out ?_ HU2.out.2 HU2.out.1 rfl (hR := HU.out l')
            clear hM HM0 hS
            intro w2 hM
            refine wpList_then ⟨.inl (by kernel_rfl), wpAllT_drop (by kernel_rfl) ?_⟩
            refine wpAll_takes [16] (by kernel_rfl) (fun _ _ _ _ _ h => h) (by kernel_rfl) ?_
            simp only [pickOps, List.filterMap_cons, List.filterMap_nil, List.getElem?_cons_zero, List.getElem?_cons_succ]
            repeat ((with_reducible apply wpPure_step); (· rfl); (· (intro w; go_simp; rfl)); intro K hK; go_simp; (with_reducible refine hK _ ?_); clear hK K)
            refine wpPure_nil ?_
            refine wpAll_one 17 rfl (by kernel_rfl) ?_
            refine nse (i := m) (j := (l'[m + 1]'HML.out).1) (tl := (l'[m + 1]'HML.out).2) hM ely_hent (by rw [List.length_set]; exact HM1.out) ?_ HU1.out.2 HU1.out.1 rfl (hR := HU.out _)
            clear hM
            intro w3 hM
            refine wpList_then (wpAll_done (by kernel_rfl) ?_)
            go_wp2_with fail
            go_roundw
            case rel => exact ⟨m, by have := HPQ.out; omega, by first | rfl | rw [wr2], _, Lib.hid (HX.out.trans hp.out), hM⟩
            case measure => first | (simp [intOf]; done) | (simp [intOf]; omega)
          · have z1 : decide (z < 0) = false := decide_eq_false hz
            clear hz
            refine wpAllH_takes [15, 16] (by kernel_rfl) (fun _ _ _ _ _ h => h) hS (by kernel_rfl) ?_
            simp only [pickOps, List.filterMap_cons, List.filterMap_nil, List.getElem?_cons_zero, List.getElem?_cons_succ]
            repeat ((with_reducible apply wpHeld_stepG); (· rfl); (· (intro w hSw; first | (go_simp; rfl) | (fail))); intro K hK; go_simp; (with_reducible refine hK _ ?_); clear hK K)
            refine wpHeld_nil ?_
            clear hS HM0
            refine wpAllH_done (by kernel_rfl) ?_
            go_wp2_with fail
            go_roundw
            case rel => exact ⟨q + 1, by omega, by have := HQ.out; have := HN.out; omega, by go_num, l', hp, hM⟩
            case measure => simp [intOf]; omega
    · have hlt' : ¬ (q : Int) < (n : Int) := by omega
      go_wp2_with fail
      exact bodyPost_end (results_none rfl _ _ _) rfl ⟨⟨_, rfl⟩, l', hp.out, hM⟩
set_option maxRecDepth 20000 in
set_option maxHeartbeats 4000000 in
theorem pdq3_any (lim : Int) (g off n c : Nat) (l : List El) (hn0 : 0 < n) (hn : n ≤ 12) (hM : Mem G w0 L R w) (hR : UpdR (elT 40 4 (.slice (some ⟨g, off, none⟩) n c) l) R F)
    (hcmp : ∀ (x y : El) (w : World) (l' : List El), l'.Perm l → Mem G w0 L (F (elT 40 4 (.slice (some ⟨g, off, none⟩) n c) l')) w → x ∈ l → y ∈ l → Calls Tryz.prog 54 #[.agg (elC x), .agg (elC y)] w fun e w' => (∃ z, e = .returned (.int .i64 z)) ∧ Below w.heap.size w w') :
    Calls Tryz.prog 65 #[.slice (some ⟨g, off, none⟩) n c, .int .i64 0, .int .i64 (n : Nat), .int .i64 lim, .func (.func 54) #[] #[]] w fun e w' => (∃ v, e = .returned v) ∧ ∃ l', l'.Perm l ∧ Mem G w0 L (F (elT 40 4 (.slice (some ⟨g, off, none⟩) n c) l')) w' := by
  have HI := Lib.hid (fun w (hM : Mem G w0 L R w) => ins3_any  g off n c l hn0 hn hM hR hcmp)
  have n0 : (0 : Int) ≤ (n : Int) := Int.natCast_nonneg _
  have n1 : (n : Int) ≤ 12 := by omega
  have n2 : decide (n ≤ 12) = true := decide_eq_true hn
  have n3 : decide ((n : Int) ≤ 12) = true := decide_eq_true n1
  clear hR hn hn0 hcmp
  go_enter Tryz.func65, Tryz.ntmps65
  go_wp2_with fail
  have M0 := Lib.hid hM
  clear hM
  go_loopw [1, 2, 3, 10, 11] (fun a b d e f wr => a = .int .i64 0 ∧ b = .int .i64 (n : Nat) ∧ d = .int .i64 lim ∧ e = .bool true ∧ f = .bool true ∧ Mem G w0 L R wr) (fun _ _ _ _ _ _ => 0)
  case atStart => exact ⟨rfl, rfl, rfl, rfl, rfl, M0.out⟩
  case round =>
    clear M0
    obtain ⟨rfl, rfl, rfl, rfl, rfl, hM⟩ := hrel
    go_wp2_with ((with_reducible refine (HI.out _ hM).mono ?_); rintro e w1 ⟨⟨v, rfl⟩, l', hp, hM1⟩; clear hM; have hp' := Lib.hid hp; clear hp; have hM := Lib.hid hM1; clear hM1)
    refine bodyPost_ret (results_none rfl _ _ _) rfl ?_
    exact ⟨⟨_, rfl⟩, l', hp'.out, hM.out⟩
set_option maxRecDepth 20000 in
set_option maxHeartbeats 4000000 in
theorem ins3_nil (A : Option Addr) (c : Nat) (w : World) : Calls Tryz.prog 91 #[.slice A 0 c, .int .i64 0, .int .i64 0, .func (.func 54) #[] #[]] w fun e w' => (∃ v, e = .returned v) ∧ w = w' := by
  go_enter Tryz.func91, Tryz.ntmps91
  go_wp2_with fail
  go_loopw [8] (fun i wr => i = .int .i64 1 ∧ w = wr) (fun _ _ => 0)
  case atStart => exact ⟨rfl, rfl⟩
  case round =>
    obtain ⟨rfl, rfl⟩ := hrel
    go_wp2_with fail
    exact bodyPost_end (results_none rfl _ _ _) rfl ⟨⟨_, rfl⟩, rfl⟩
set_option maxRecDepth 20000 in
set_option maxHeartbeats 4000000 in
theorem pdq3_nil (A : Option Addr) (c : Nat) (lim : Int) (w : World) : Calls Tryz.prog 65 #[.slice A 0 c, .int .i64 0, .int .i64 0, .int .i64 lim, .func (.func 54) #[] #[]] w fun e w' => (∃ v, e = .returned v) ∧ w = w' := by
  have HI := Lib.hid (fun w => ins3_nil  A c w)
  go_enter Tryz.func65, Tryz.ntmps65
  go_wp2_with fail
  go_loopw [1, 2, 3, 10, 11] (fun a b d e f wr => a = .int .i64 0 ∧ b = .int .i64 0 ∧ d = .int .i64 lim ∧ e = .bool true ∧ f = .bool true ∧ w = wr) (fun _ _ _ _ _ _ => 0)
  case atStart => exact ⟨rfl, rfl, rfl, rfl, rfl, rfl⟩
  case round =>
    obtain ⟨rfl, rfl, rfl, rfl, rfl, rfl⟩ := hrel
    go_wp2_with ((with_reducible refine (HI.out _).mono ?_); rintro e w1 ⟨⟨v, rfl⟩, rfl⟩)
    refine bodyPost_ret (results_none rfl _ _ _) rfl ?_
    exact ⟨⟨_, rfl⟩, rfl⟩
set_option maxRecDepth 20000 in
set_option maxHeartbeats 4000000 in
theorem sort3_any (A : Option Addr) (n c : Nat) (l : List El) (hn : l.length ≤ 12) (hM : Mem G w0 L R w) (hR : UpdR (elT 40 4 (.slice A n c) l) R F)
    (hcmp : ∀ (x y : El) (w : World) (l' : List El), l'.Perm l → Mem G w0 L (F (elT 40 4 (.slice A n c) l')) w → x ∈ l → y ∈ l → Calls Tryz.prog 54 #[.agg (elC x), .agg (elC y)] w fun e w' => (∃ z, e = .returned (.int .i64 z)) ∧ Below w.heap.size w w') :
    Calls Tryz.prog 53 #[.slice A n c, .func (.func 54) #[] #[]] w fun e w' => (∃ v, e = .returned v) ∧ ∃ l', l'.Perm l ∧ Mem G w0 L (F (elT 40 4 (.slice A n c) l')) w' := by
  have hl := (elT_len (hM.thing _ (mem_of_updR hR))).1
  have e0 : F (elT 40 4 (.slice A n c) l) = R := by obtain ⟨P, B, h1, h2⟩ := hR; rw [h2, h1]
  have HB := Lib.hid (fun w => len_any n w (by omega))
  have hcv : IntKind.u64.wrap (n : Int) = (n : Int) := IntWalk.u64_in _ ⟨by omega, by omega⟩
  rcases Nat.eq_zero_or_pos n with hz | hz
  · subst hz
    obtain rfl : l = [] := List.eq_nil_of_length_eq_zero hl.symm
    have HP := Lib.hid (fun lim w => pdq3_nil  A c lim w)
    clear hcmp hn hl
    rw [Int.natCast_zero] at HB hcv
    go_enter Tryz.func53, Tryz.ntmps53
    go_wp2_with (first | ((with_reducible refine (HB.out _).mono ?_); rintro e w1 ⟨⟨z, rfl⟩, rfl⟩) | ((with_reducible refine (HP.out _ _).mono ?_); rintro e w1 ⟨⟨v, rfl⟩, rfl⟩))
    exact bodyPost_end (results_none rfl _ _ _) rfl ⟨⟨_, rfl⟩, [], List.Perm.refl _, e0 ▸ hM⟩
  · obtain ⟨g, off, rfl, _⟩ := elT_at (hM.thing _ (mem_of_updR hR)) 0 (by omega)
    have HP := Lib.hid (fun lim w (hM : Mem G w0 L R w) => pdq3_any  lim g off n c l hz (by omega) hM hR hcmp)
    have n0 : (0 : Int) ≤ (n : Int) := Int.natCast_nonneg _
    have n1 : (n : Int) ≤ 12 := by omega
    clear hcmp hn hl hz hR e0
    go_enter Tryz.func53, Tryz.ntmps53
    go_wp2_with (first | ((with_reducible refine (HB.out _).mono ?_); rintro e w1 ⟨⟨z, rfl⟩, rfl⟩) | ((with_reducible refine (HP.out _ _ hM).mono ?_); rintro e w1 ⟨⟨v, rfl⟩, l', hp, hM1⟩; have HP' := Lib.hid hp; have HM1 := Lib.hid hM1; clear hM hp hM1))
    exact bodyPost_end (results_none rfl _ _ _) rfl ⟨⟨_, rfl⟩, l', HP'.out, HM1.out⟩
end
end Go.Proofs.YtpjphjokhccdaaaGreat
