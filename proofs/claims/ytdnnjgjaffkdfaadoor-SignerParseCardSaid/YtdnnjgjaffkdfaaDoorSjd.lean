/- The reference: Parse. -/
import Derived.Test.YtdnnjgjaffkdfaaDoorSjc
import Derived.Test.YtdnnjgjaffkdfaaDoorSdi
import Derived.Test.YtdnnjgjaffkdfaaDoorSbm
namespace Go.Lin
open Go Go.Bul
/-- The first bytes of the values, the rest not yet set. -/
def chQ (ch : Ch) (i : Nat) (hi : i ≤ 560) : Ch := ⟨ch.val.take i ++ Go.Thg.zeros (560 - i), by simp [ch.len, Go.Thg.zeros]; omega, by
  intro x hx
  rcases List.mem_append.1 hx with hx | hx
  · exact ch.byt x (List.mem_of_mem_take hx)
  · have := List.eq_of_mem_replicate hx; omega⟩
theorem chQ_0 (ch : Ch) : chQ ch 0 (by omega) = ch0 := Ch.ext' (by simp [chQ, ch0])
theorem chQ_560 (ch : Ch) : chQ ch 560 (by omega) = ch := Ch.ext' (by
  show ch.val.take 560 ++ Go.Thg.zeros (560 - 560) = ch.val
  rw [List.take_of_length_le (by have := ch.len; omega)]
  simp [Go.Thg.zeros])
theorem sigC_setb (leaf : Int) (ch : Ch) (i : Nat) (hi : i < 560) : (sigC leaf (chQ ch i (by omega)) none 0 0).setIfInBounds (1 + i) (.int .u8 (ch.val.getD i 0 : Nat)) = sigC leaf (chQ ch (i + 1) (by omega)) none 0 0 := by
  have hl := ch_len (chQ ch i (by omega))
  have e1 : Go.Thg.zeros (560 - i) = 0 :: Go.Thg.zeros (560 - (i + 1)) := by
    unfold Go.Thg.zeros
    rw [show 560 - i = (560 - (i + 1)) + 1 by omega, List.replicate_succ]
  have e2 : ch.val.take (i + 1) = ch.val.take i ++ [ch.val.getD i 0] := by
    rw [List.take_add_one, List.getD_eq_getElem?_getD, List.getElem?_eq_getElem (by rw [ch.len]; exact hi)]
    rfl
  have hl2 : (vals .u8 (ch.val.take i)).length = i := by rw [vals_length, List.length_take, ch.len]; omega
  apply Array.ext'
  rw [Nat.add_comm 1 i]
  simp only [sigC, List.setIfInBounds_toArray, List.set_cons_succ]
  rw [List.set_append_left _ _ (by omega)]
  refine congrArg (fun l => (Value.int .i64 leaf :: (l ++ [Value.slice none 0 0]))) ?_
  show (vals .u8 (ch.val.take i ++ Go.Thg.zeros (560 - i))).set i _ = vals .u8 (ch.val.take (i + 1) ++ Go.Thg.zeros (560 - (i + 1)))
  rw [e2, e1]
  have e3 : ∀ (a b : List Nat), vals .u8 (a ++ b) = vals .u8 a ++ vals .u8 b := fun a b => by simp [vals]
  rw [e3, List.set_append_right _ _ (by omega), hl2, Nat.sub_self, e3, e3, List.append_assoc]
  rfl
end Go.Lin
namespace Go.Proofs.YtdnnjgjaffkdfaaDoor
open Go Go.RowKit Go.Bul Go.Thg Go.Lin
theorem run_rsghb (h : Int) (w : World) : (Instr.build 26 #[(0, .int .i64 h)]).run Tryd.prog w = .ok (.agg (sigC h ch0 none 0 0)) w := by
  refine run_build_struct rsg_struct rsg_zero rsg_places ?_ w
  show Instr.fill _ (sigC 0 ch0 none 0 0) [(0, .int .i64 h)] = _
  rw [fill_cons (size := 1) rfl rfl (by rw [sigC_size]; omega)]
  rfl
theorem held_rsghb {w : World} {o : Oper} {a : Act} {x0 : Operand} {h : Int} (ho : o.op = .build 26 #[(0, x0)] := by rfl) (hx : a.eval x0 = .int .i64 h := by rfl) : (execOp a.eval o).run Tryd.prog w = .ok (.value (.agg (sigC h ch0 none 0 0))) w := by
  unfold execOp
  simp only [ho, List.map_toArray, List.map_cons, List.map_nil, hx, Sem.run_bind, run_rsghb, Result.andThen_ok, Sem.run_pure]
set_option maxRecDepth 20000 in
set_option maxHeartbeats 8000000 in
theorem rpsig_ok (s : ByteArray) (w : World) (ys : List Nat) (cnt : Nat) (hBy : Bytes ys) (hcnt : cnt = ys.getD 2 0) (hlen : ys.length = 563 + 16 * cnt) (hD : ∀ w, Calls Tryd.prog 74 #[.string s] w fun e w' => ∃ A n c off, e = .returned (.tuple #[.slice A n c, .int .i64 off, .int .i64 ((0 : Nat) : Int)]) ∧ Becomes [] w (bT (.slice A n c) ys) w') :
    Calls Tryd.prog 46 #[.string s] w fun e w' => ∃ leaf ch E n c P er, e = .returned (.tuple #[.agg (sigC leaf ch E n c), .int .i64 (er : Nat)]) ∧ PSig ys 0 leaf ch P er ∧ Becomes [] w (p16T (.slice E n c) P) w' := by
  have hM := Mem.start [] w
  have HD := Lib.hid hD
  have h3 : ¬ ys.length < 3 := by omega
  have h5 : ¬ ys.length < 563 + 16 * cnt := by omega
  have h6 : ¬ 563 + 16 * cnt < ys.length := by omega
  have hc9 : cnt < 256 := by rw [hcnt, List.getD_eq_getElem?_getD, List.getElem?_eq_getElem (by omega)]; exact hBy _ (List.getElem_mem _)
  have HX2 := Lib.hid (fun (sg so n c : Nat) (w' : World) (h : (bT (.slice (some ⟨sg, so, none⟩) n c) ys).P w') (hn : 2 < n) => show w'.cell? ⟨sg, so + 2, none⟩ = some (.int .u8 (cnt : Nat)) by rw [hcnt]; exact bT_cell h 2 hn)
  have c0 : (0 : Int) ≤ (cnt : Int) := Int.natCast_nonneg _
  have c1 : (cnt : Int) < 256 := by omega
  have H3 := Lib.hid (show 3 ≤ ys.length by omega)
  clear hlen hD
  obtain ⟨lf, hlf⟩ : ∃ lf, lf = numV (ys.take 2) := ⟨_, rfl⟩
  obtain ⟨x0, hx0⟩ : ∃ x0, ys.getD 0 0 = x0 := ⟨_, rfl⟩
  obtain ⟨x1, hx1⟩ : ∃ x1, ys.getD 1 0 = x1 := ⟨_, rfl⟩
  have hlf2 : lf = x0 * 256 + x1 := by
    rw [hlf, ← hx0, ← hx1]
    match ys, h3 with
    | a :: b :: _, _ => simp [numV]
  have hx09 : x0 < 256 := by rw [← hx0, List.getD_eq_getElem?_getD, List.getElem?_eq_getElem (by omega)]; exact hBy _ (List.getElem_mem _)
  have hx19 : x1 < 256 := by rw [← hx1, List.getD_eq_getElem?_getD, List.getElem?_eq_getElem (by omega)]; exact hBy _ (List.getElem_mem _)
  obtain ⟨ch, hch⟩ : ∃ ch : Ch, ch.val = (ys.drop 3).take 560 := ⟨⟨_, by rw [List.length_take, List.length_drop]; omega, fun x hx => hBy x (List.drop_subset _ _ (List.take_subset _ _ hx))⟩, rfl⟩
  have HCJ := Lib.hid (fun (i : Nat) (hi : i < 560) => show ys.getD (3 + i) 0 = ch.val.getD i 0 by rw [hch, List.getD_eq_getElem?_getD, List.getD_eq_getElem?_getD, List.getElem?_take, if_pos hi, List.getElem?_drop])
  have HND := Lib.hid (fun (j : Nat) (hj : j < cnt) => show ∃ y : Nd, y.val = (ys.drop (563 + 16 * j)).take 16 from ⟨⟨_, by rw [List.length_take, List.length_drop]; omega, fun x hx => hBy x (List.drop_subset _ _ (List.take_subset _ _ hx))⟩, rfl⟩)
  have HLN := Lib.hid (show ys.length = 563 + 16 * cnt by omega)
  have HPS : Hid (∀ (P : List Nd), ndBs P = ys.drop 563 → ∃ (lff : Int) (chf : Ch) (Pf : List Nd) (er : Nat), PSig ys 0 lff chf Pf er ∧ ((sgE (lf : Nat) cnt = 2 ∧ lff = 0 ∧ chf = ch0 ∧ Pf = [] ∧ er = 2) ∨ (sgE (lf : Nat) cnt = 0 ∧ lff = (lf : Nat) ∧ chf = ch ∧ Pf = P ∧ er = 0))) := Lib.hid fun P hP => by
    rcases sgE_or (lf : Nat) cnt with h7 | h7
    · refine ⟨(lf : Nat), ch, P, 0, ⟨?_, fun h => absurd rfl h, fun _ => ⟨by rw [hlf], hch, hP⟩⟩, .inr ⟨h7, rfl, rfl, rfl, rfl⟩⟩
      unfold psE
      rw [if_neg (by simp), if_neg h3, ← hcnt, if_neg h5, if_neg h6, ← hlf, if_pos h7]
    · refine ⟨0, ch0, [], 2, ⟨?_, fun _ => ⟨rfl, rfl, rfl⟩, fun h => absurd h (by decide)⟩, .inl ⟨h7, rfl, rfl, rfl, rfl⟩⟩
      unfold psE
      rw [if_neg (by simp), if_neg h3, ← hcnt, if_neg h5, if_neg h6, ← hlf, if_neg (by rw [h7]; decide)]
  have u00 : (0 : Int) ≤ (x0 : Int) := Int.natCast_nonneg _
  have u01 : (x0 : Int) < 256 := by omega
  have u10 : (0 : Int) ≤ (x1 : Int) := Int.natCast_nonneg _
  have u11 : (x1 : Int) < 256 := by omega
  have ulf : (x0 : Int) * 256 + (x1 : Int) = (lf : Int) := by omega
  have HXA := Lib.hid (fun (sg so n c : Nat) (w' : World) (h : (bT (.slice (some ⟨sg, so, none⟩) n c) ys).P w') (k : Nat) (hn : k < n) => bT_cell h k hn)
  clear hlf hlf2 hch hx09 hx19 hBy h3 hcnt
  go_enter Tryd.func46, Tryd.ntmps46
  go_upto_region 4 with (first | ((with_reducible refine at_alloc ?_); refine slz hM ?_ (hz := zero_rsg); clear hM; intro g2 w1 hM) | ((with_reducible refine (HD.out _).mono ?_); rintro e w1 ⟨A, n, c, off, rfl, hb⟩; replace hM := hM.newThing hb; clear hb))
  obtain ⟨g2, hg2⟩ := hM.name1
  subst hg2
  have hn := (bT_reads (hM.thing _ (List.Mem.head _))).2.1
  have hn3 : 2 < n := by have := H3.out; omega
  obtain ⟨sg, so, rfl, _, _⟩ := (bT_reads (hM.thing _ (List.Mem.head _))).1.2 (by omega)
  have HX := Lib.hid (fun w' (h : (bT (.slice (some ⟨sg, so, none⟩) n c) ys).P w') => HX2.out _ _ _ _ _ h hn3)
  have n1 : decide (n < 3) = false := decide_eq_false (by omega)
  have n2 : decide ((n : Int) < 3) = false := decide_eq_false (by omega)
  have n4 : (2 : Int) < (n : Int) := by omega
  have n3 : decide ((n : Int) < 563 + 16 * (cnt : Int)) = false := decide_eq_false (by omega)
  have n5 : ¬ ((563 : Int) + 16 * (cnt : Int) < (n : Int)) := by omega
  have hne : n = 563 + 16 * cnt := by omega
  replace hne := Lib.hid hne
  clear hn h5 h6
  go_upto_region 8 with (first | ((first | with_reducible refine at_load ?_ | ((with_reducible refine at_load_g ?_ ?_); (· rfl))); refine lo (HX.out _ (hM.thing _ (List.Mem.head _))) ?_ (hty := one_u8)))
  have HA := Lib.hid (fun w' (h : (bT (.slice (some ⟨sg, so, none⟩) n c) ys).P w') => show w'.cell? ⟨sg, so, none⟩ = some (.int .u8 (x0 : Nat)) by rw [← hx0]; exact HXA.out _ _ _ _ _ h 0 (by omega))
  have HB := Lib.hid (fun w' (h : (bT (.slice (some ⟨sg, so, none⟩) n c) ys).P w') => show w'.cell? ⟨sg, so + 1, none⟩ = some (.int .u8 (x1 : Nat)) by rw [← hx1]; exact HXA.out _ _ _ _ _ h 1 (by omega))
  have n6 : (1 : Int) < (n : Int) := by omega
  have n8 : 0 < n := by omega
  have n9 : 1 < n := by omega
  have n7 : (0 : Int) < (n : Int) := by omega
  have uw0 : IntKind.i64.wrap (x0 : Int) = (x0 : Int) := IntWalk.i64_in _ ⟨by omega, by omega⟩
  have uw1 : IntKind.i64.wrap (x1 : Int) = (x1 : Int) := IntWalk.i64_in _ ⟨by omega, by omega⟩
  have uw2 : IntKind.i64.wrap ((x0 : Int) * 256) = (x0 : Int) * 256 := IntWalk.i64_in _ ⟨by omega, by omega⟩
  have uw3 : IntKind.i64.wrap (lf : Int) = (lf : Int) := IntWalk.i64_in _ ⟨by omega, by omega⟩
  replace hx0 := Lib.hid hx0
  replace hx1 := Lib.hid hx1
  refine wp_region_allHM hM (fun w' => (bT (.slice (some ⟨sg, so, none⟩) n c) ys).P w') (by kernel_rfl) ?_
  clear hM
  intro wd hM
  have hS := hM.thing _ (List.Mem.head _)
  refine wpAllH_takes [0, 1, 5, 6, 2, 3, 4, 7, 8, 9] (by kernel_rfl) (fun _ _ _ _ _ h => h) hS (by kernel_rfl) ?_
  simp only [pickOps, List.filterMap_cons, List.filterMap_nil, List.getElem?_cons_zero, List.getElem?_cons_succ]
  repeat ((with_reducible apply wpHeld_step); (· rfl); (· (intro w hSw; first | (go_simp; rfl) | ((first | exact yields_load (C := fun _ => True) (qo (HA.out _ hSw) (hty := one_u8)) rfl | exact yields_load (C := fun _ => True) (qo (HB.out _ hSw) (hty := one_u8)) rfl)))); intro K hK; go_simp; (with_reducible refine hK _ ?_); clear hK K)
  refine wpHeld_nil ?_
  refine wpAllH_takes [10] (by kernel_rfl) (fun _ _ _ _ _ h => h) hS (by kernel_rfl) ?_
  simp only [pickOps, List.filterMap_cons, List.filterMap_nil, List.getElem?_cons_zero, List.getElem?_cons_succ]
  with_reducible apply wpHeld_step
  · rfl
  · intro w hSw
    exact held_rsghb
  intro K hK
  refine hK _ ?_
  clear hK K
  refine wpHeld_nil ?_
  refine wpAllH_one 11 rfl (by kernel_rfl) ?_
  refine slz hM ?_ (hz := zero_rsg)
  clear hM hS
  intro g7 wz hM
  have hS := hM.thing _ (List.Mem.head _)
  refine wpList_then ⟨hS, ?_⟩
  refine wpAllH_one 12 rfl (by kernel_rfl) ?_
  refine slw hM ?_ (hs := sigC_size _ _ _ _ _) (h1 := sigC_one _ _ _ _ _) (hty := row_rsg)
  clear hM hS
  intro wx hM
  have hS := hM.thing _ (List.Mem.head _)
  refine wpList_then ⟨hS, ?_⟩
  refine wpAllH_done (by kernel_rfl) ?_
  clear hS
  go_wp2_with fail
  have M0 := Lib.hid hM
  clear hM
  go_loopw [8] (fun i wr => ∃ (j : Nat) (hj : j ≤ 560), i = .int .i64 (j : Nat) ∧ Mem [] w [⟨g7, 26, 562, sigC (lf : Nat) (chQ ch j hj) none 0 0⟩, ⟨g2, 26, 562, sigC 0 ch0 none 0 0⟩] [bT (.slice (some ⟨sg, so, none⟩) n c) ys] wr) (fun i _ => 560 - (intOf i).toNat)
  case atStart => exact ⟨0, by omega, rfl, by rw [chQ_0]; exact M0.out⟩
  case round =>
    clear M0
    obtain ⟨j, hj, rfl, hM⟩ := hrel
    have k0 : (0 : Int) ≤ (j : Int) := Int.natCast_nonneg _
    by_cases hlt : j < 560
    · have k1 : (j : Int) < 560 := by omega
      obtain ⟨q, hq⟩ : ∃ q, q = j / 16 := ⟨_, rfl⟩
      obtain ⟨r, hr⟩ : ∃ r, r = j % 16 := ⟨_, rfl⟩
      have eq1 : (j : Int) / 16 = (q : Int) := by omega
      have er1 : (j : Int) % 16 = (r : Int) := by omega
      have er2 : (j : Int).tmod 16 = (r : Int) := by rw [Int.tmod_eq_emod_of_nonneg (by omega)]; exact er1
      have q9 : q < 35 := by omega
      have r9 : r < 16 := by omega
      have q8 : (q : Int) < 35 := by omega
      have r8 : (r : Int) < 16 := by omega
      have q0 : (0 : Int) ≤ (q : Int) := Int.natCast_nonneg _
      have r0 : (0 : Int) ≤ (r : Int) := Int.natCast_nonneg _
      have wq : IntKind.i64.wrap (q : Int) = (q : Int) := IntWalk.i64_in _ ⟨by omega, by omega⟩
      have wr : IntKind.i64.wrap (r : Int) = (r : Int) := IntWalk.i64_in _ ⟨by omega, by omega⟩
      have wj : IntKind.i64.wrap (3 + (j : Int)) = 3 + (j : Int) := IntWalk.i64_in _ ⟨by omega, by omega⟩
      have hix : 1 + q * 16 + r = 1 + j := by omega
      have j3 : 3 + (j : Int) < (n : Int) := by have := hne.out; omega
      have HCL := Lib.hid (fun w' (h : (bT (.slice (some ⟨sg, so, none⟩) n c) ys).P w') => show w'.cell? ⟨sg, so + (3 + j), none⟩ = some (.int .u8 (ch.val.getD j 0 : Nat)) by rw [← HCJ.out j hlt]; exact HXA.out _ _ _ _ _ h (3 + j) (by have := hne.out; omega))
      have hset := sigC_setb (lf : Nat) ch j hlt
      rw [← hix] at hset
      generalize ch.val.getD j 0 = v at HCL hset
      generalize hY2 : sigC (lf : Nat) (chQ ch (j + 1) hlt) none 0 0 = Y2 at hset
      generalize sigC (lf : Nat) (chQ ch j hj) none 0 0 = Y1 at hset hM
      replace hset := Lib.hid hset
      replace hY2 := Lib.hid hY2
      clear hq hr
      go_upto_region 12 with fail
      refine wp_region_allHM hM (fun w' => (bT (.slice (some ⟨sg, so, none⟩) n c) ys).P w') (by kernel_rfl) ?_
      clear hM
      intro wd hM
      have hS := hM.thing _ (List.Mem.head _)
      refine wpAllH_takes [0, 1, 2, 3, 4, 5, 6, 7, 9, 10, 8, 11] (by kernel_rfl) (fun _ _ _ _ _ h => h) hS (by kernel_rfl) ?_
      simp only [pickOps, List.filterMap_cons, List.filterMap_nil, List.getElem?_cons_zero, List.getElem?_cons_succ]
      repeat ((with_reducible apply wpHeld_step); (· rfl); (· (intro w hSw; first | (go_simp; rfl) | (exact yields_load (C := fun _ => True) (qo (HCL.out _ hSw) (hty := one_u8)) rfl))); intro K hK; go_simp; (with_reducible refine hK _ ?_); clear hK K)
      refine wpHeld_nil ?_
      refine wpAllH_one 12 rfl (by kernel_rfl) ?_
      refine sls hM ?_ (hx := by (go_simp; rfl)) (hty := one_u8) (hX := hset.out)
      clear hM hS
      intro wx hM
      have hS := hM.thing _ (List.Mem.head _)
      refine wpList_then ⟨hS, ?_⟩
      refine wpAllH_done (by kernel_rfl) ?_
      clear hS
      go_wp2_with fail
      exact ⟨⟨j + 1, by omega, by go_num, by rw [hY2.out]; exact hM⟩, by simp [intOf]; omega⟩
    · have hj5 : j = 560 := by omega
      subst hj5
      rw [chQ_560] at hM
      obtain ⟨zz, hzz⟩ : ∃ zz : Int, zz = ((560 : Nat) : Int) := ⟨_, rfl⟩
      rw [← hzz]
      have z9 : ¬ (zz < 560) := by omega
      clear hzz hlt hj k0 HCJ HA HB n6 n7 n8 n9 uw0 uw1 uw2 uw3 hx0 hx1 u00 u01 u10 u11 ulf
      have M0 := Lib.hid ((hM.newThing (hbecomes_zero none (KeptBut.refl _ _))).perm (List.Perm.swap _ _ _))
      clear hM
      go_wp2_with fail
      go_loopw [9] (fun i wr => ∃ (j : Nat) (P : List Nd) (E : Option Addr) (c2 : Nat), j ≤ cnt ∧ i = .int .i64 (j : Nat) ∧ Hid (P.length = j) ∧ ndBs P = (ys.drop 563).take (16 * j) ∧ Mem [] w [⟨g7, 26, 562, sigC (lf : Nat) ch E j c2⟩, ⟨g2, 26, 562, sigC 0 ch0 none 0 0⟩] [bT (.slice (some ⟨sg, so, none⟩) n c) ys, p16T (.slice E j c2) P] wr) (fun i _ => cnt - (intOf i).toNat)
      case atStart => exact ⟨0, [], none, 0, by omega, rfl, Lib.hid rfl, by simp [ndBs], M0.out⟩
      case round =>
        clear M0
        obtain ⟨j, P, E, e2', hj, rfl, hPl, hP, hM⟩ := hrel
        have k0 : (0 : Int) ≤ (j : Int) := Int.natCast_nonneg _
        by_cases hlt : j < cnt
        · have k1 : (j : Int) < (cnt : Int) := by omega
          obtain ⟨y, hy⟩ := HND.out j hlt
          have hP2 := Lib.hid (show ndBs (P ++ [y]) = (ys.drop 563).take (16 * (j + 1)) by
            rw [ndBs_append, ndBs_one, hP, hy, Nat.mul_add, List.take_add, List.drop_drop])
          have HYK := Lib.hid (fun (k : Nat) (hk : k < 16) => show ys.getD (563 + 16 * j + k) 0 = y.val.getD k 0 by rw [hy, List.getD_eq_getElem?_getD, List.getD_eq_getElem?_getD, List.getElem?_take, if_pos hk, List.getElem?_drop])
          have HCP := Lib.hid (sigC_p (lf : Nat) ch E j e2')
          have HSE := Lib.hid (fun B m d => sigC_setp (lf : Nat) ch E B j e2' m d)
          have h63 : P.length + [y].length ≤ 1000000000 := by have := hPl.out; simp; omega
          generalize sigC (lf : Nat) ch E j e2' = Y at hM HCP HSE
          clear hy hP HPS
          go_wp2_with (first | ((first | with_reducible refine at_load ?_ | ((with_reducible refine at_load_g ?_ ?_); (· rfl))); refine lo (HX.out _ (hM.thing _ (List.Mem.head _))) ?_ (hty := one_u8)) | ((with_reducible refine at_alloc ?_); refine slz hM ?_ (hz := zero_a16); clear hM; intro g10 w1 hM))
          have M1 := Lib.hid hM
          clear hM
          go_loopw [11] (fun i wq => ∃ k : Nat, k ≤ 16 ∧ i = .int .i64 (k : Nat) ∧ Mem [] w [⟨g10, 22, 16, ndPc y k⟩, ⟨g7, 26, 562, Y⟩, ⟨g2, 26, 562, sigC 0 ch0 none 0 0⟩] [bT (.slice (some ⟨sg, so, none⟩) n c) ys, p16T (.slice E j e2') P] wq) (fun i _ => 16 - (intOf i).toNat)
          case atStart => exact ⟨0, by omega, rfl, by rw [ndPc_0]; exact M1.out⟩
          case round =>
            clear M1
            obtain ⟨k, hk, rfl, hM⟩ := hrel
            have k2 : (0 : Int) ≤ (k : Int) := Int.natCast_nonneg _
            by_cases hkl : k < 16
            · have k3 : (k : Int) < 16 := by omega
              have hcl := HXA.out _ _ _ _ _ (hM.thing _ (List.Mem.head _)) (563 + 16 * j + k) (by have := hne.out; omega)
              rw [HYK.out k hkl] at hcl
              have hset := ndPc_set y k hkl
              generalize y.val.getD k 0 = v at hcl hset
              obtain ⟨ix, hix⟩ : ∃ ix, ix = 563 + 16 * j + k := ⟨_, rfl⟩
              rw [← hix] at hcl
              have eix : 563 + 16 * (j : Int) + (k : Int) = (ix : Int) := by omega
              have k4 : (ix : Int) < (n : Int) := by have := hne.out; omega
              have k5 : (0 : Int) ≤ (ix : Int) := Int.natCast_nonneg _
              have k6 : ix < n := by omega
              clear hix
              replace hcl := Lib.hid hcl
              replace hset := Lib.hid hset
              go_wp2_with (first | ((with_reducible refine at_load ?_); refine lo hcl.out ?_ (hty := one_u8)) | ((with_reducible refine at_store ?_); refine sls hM ?_ (hty := one_u8) (hX := hset.out); clear hM; intro wx hM))
              exact ⟨⟨k + 1, by omega, by go_num, hM⟩, by simp [intOf]; omega⟩
            · have hk16 : k = 16 := by omega
              subst hk16
              rw [ndPc_16] at hM
              obtain ⟨zk, hzk⟩ : ∃ zk : Int, zk = ((16 : Nat) : Int) := ⟨_, rfl⟩
              rw [← hzk]
              have zk9 : ¬ (zk < 16) := by omega
              clear hzk hkl hk k2
              go_wp2_with (first | ((with_reducible refine at_load ?_); first | refine slc hM ?_ (hv := HCP.out) | refine sll hM ?_ (hty := row_a16)) | (refine lb16 hM ?_; clear hM; intro g1 w5 hM) | ((with_reducible refine at_append ?_); refine la16 (src_16 hM (List.Mem.head _)) hM h63 ?_; clear hM; intro A5 N5 c5 wx hN5 hM) | ((with_reducible refine at_store ?_); refine sls hM ?_ (hX := HSE.out _ _ _); clear hM; intro wy hM))
              obtain rfl : N5 = j + 1 := by have := hN5.out; have := hPl.out; simp at *; omega
              exact ⟨⟨j + 1, P ++ [y], A5, c5, by omega, by go_num, Lib.hid (by have := hPl.out; simp; omega), hP2.out, hM.subL (List.Sublist.cons _ (List.sublist_cons_self _ _))⟩, by simp [intOf]; omega⟩
        · have hjc : j = cnt := by omega
          subst hjc
          have hPn : ndBs P = ys.drop 563 := by rw [hP, List.take_of_length_le (by rw [List.length_drop]; have := HLN.out; omega)]
          obtain ⟨lff, chf, Pf, er, hPS, hcase⟩ := HPS.out P hPn
          have HCK := Lib.hid (fun w => rchk_any (lf : Nat) ch E j e2' w (by omega))
          replace hPS := Lib.hid hPS
          clear HPS hP hPn hlt hj HND HXA
          rcases hcase with ⟨c2, rfl, rfl, rfl, rfl⟩ | ⟨c2, rfl, rfl, rfl, rfl⟩
          · rw [c2] at HCK
            clear c2
            go_wp2_with (first | ((with_reducible refine at_load ?_); first | refine sll hM ?_ (hty := row_rsg) | refine lo (HX.out _ (hM.thing _ (List.Mem.head _))) ?_ (hty := one_u8)) | ((with_reducible refine (HCK.out _).mono ?_); rintro e w1 ⟨rfl, hb⟩; replace hM := hM.step hb; clear hb) | ((with_reducible refine at_build ?_); refine lbrsg0 ?_) | ((with_reducible refine at_store ?_); refine slw hM ?_ (hs := sigC_size _ _ _ _ _) (h1 := sigC_one _ _ _ _ _) (hty := row_rsg); clear hM; intro wx hM))
            exact bodyPost_ret (results_mem_cell_tmp hM rfl (by rfl) (by repeat (first | exact List.Mem.head _ | apply List.Mem.tail)) row_rsg (by rfl)) rfl ⟨_, _, _, _, _, _, _, rfl, hPS.out, hbecomes_zero none (KeptBut.of_below hM.below)⟩
          · rw [c2] at HCK
            clear c2
            go_wp2_with (first | ((with_reducible refine at_load ?_); first | refine sll hM ?_ (hty := row_rsg) | refine lo (HX.out _ (hM.thing _ (List.Mem.head _))) ?_ (hty := one_u8)) | ((with_reducible refine (HCK.out _).mono ?_); rintro e w1 ⟨rfl, hb⟩; replace hM := hM.step hb; clear hb) | ((with_reducible refine at_build ?_); refine lbrsg0 ?_) | ((with_reducible refine at_store ?_); refine slw hM ?_ (hs := sigC_size _ _ _ _ _) (h1 := sigC_one _ _ _ _ _) (hty := row_rsg); clear hM; intro wx hM))
            have hb := (hM.subL (List.nil_sublist _)).becomes (List.Mem.tail _ (List.Mem.head _))
            exact bodyPost_ret (results_mem_cell_tmp hM rfl (by rfl) (by repeat (first | exact List.Mem.head _ | apply List.Mem.tail)) row_rsg (by rfl)) rfl ⟨_, _, _, _, _, _, _, rfl, hPS.out, hb⟩
end Go.Proofs.YtdnnjgjaffkdfaaDoor
