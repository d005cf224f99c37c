/- The contract of known. -/
import Derived.Test.YtbbdnlcjjcmllaaDoorWg
namespace Go.Proofs.YtbbdnlcjjcmllaaDoor
open Go Go.RowKit Go.Bul Go.Thg Go.Lin
section
variable {w : World} {ops : Array Oper} {rest : List Oper} {o : Oper} {a : Act} {Q : Exit → Act → World → Prop} {x0 : Operand}
theorem lbsec1 (hk : wpList Tryd.prog ops Q rest (a.put o.dst (.agg (secC sd0 1))) w) (hgd : o.guard = none := by rfl) (ho : o.op = .build 28 #[(1, x0)] := by rfl) (h0 : a.eval x0 = .int .i64 1 := by rfl) : wpList Tryd.prog ops Q (o :: rest) a w :=
  wpList_build_run hgd _ _ ho _ (by simp only [List.map_toArray, List.map_cons, List.map_nil, h0]) _ (run_sec1 w) hk
theorem lbd1 (hk : wpList Tryd.prog ops Q rest (a.put o.dst (.agg (ndC d1))) w) (hgd : o.guard = none := by rfl) (ho : o.op = .build 23 #[(0, x0)] := by rfl) (h0 : a.eval x0 = .int .u8 1 := by rfl) : wpList Tryd.prog ops Q (o :: rest) a w :=
  wpList_build_run hgd _ _ ho _ (by simp only [List.map_toArray, List.map_cons, List.map_nil, h0]) _ (run_d1 w) hk
theorem lbd2 (hk : wpList Tryd.prog ops Q rest (a.put o.dst (.agg (ndC d2))) w) (hgd : o.guard = none := by rfl) (ho : o.op = .build 23 #[(0, x0)] := by rfl) (h0 : a.eval x0 = .int .u8 2 := by rfl) : wpList Tryd.prog ops Q (o :: rest) a w :=
  wpList_build_run hgd _ _ ho _ (by simp only [List.map_toArray, List.map_cons, List.map_nil, h0]) _ (run_d2 w) hk
end
set_option maxRecDepth 20000 in
set_option maxHeartbeats 8000000 in
theorem known_any (w : World) (hT : Tab w) (hA : Alp w) : Calls Tryd.prog 5 #[] w fun e w' => e = .returned (.bool true) ∧ Below w.heap.size w w' := by
  have HT := Lib.hid hT
  have HA := Lib.hid hA
  have HN := Lib.hid (new_yes sd0 1 0 w (by decide) (by decide) (by decide) (by decide) hT)
  have r1 := run_d1
  have HSG := Lib.hid (fun (L : List Ent) (R : List Thing) (g : Nat) (A : Option Addr) (c : Nat) (w' : World) (hM : Mem [] w (⟨g, 90, 35, sgrC sd0 1 A 2 c 0⟩ :: L) R w') (hR : ndT (.slice A 2 c) (lvsN sd0 2) ∈ R) => gsign_yes sd0 1 A 2 c (lvsN sd0 2) 0 d1 hM hR (by decide) (by decide) (lvsN_length _ _) (by decide) hT)
  have HSU := Lib.hid (fun (L : List Ent) (R : List Thing) (g : Nat) (A : Option Addr) (c : Nat) (w' : World) (hM : Mem [] w (⟨g, 90, 35, sgrC sd0 1 A 2 c 1⟩ :: L) R w') => gsign_used sd0 1 A 2 c 1 d2 hM (by decide) (by decide))
  have HTX := Lib.hid (fun (B : Option Addr) (c : Nat) (w' : World) (hr : NIn w' B 1 (sibsF (lvsN sd0 2) 0 1)) (hb : Below w.heap.size w w') => gtext_yes 0 (sgCh sd0 0 d1) B 1 c (sibsF (lvsN sd0 2) 0 1) w' hr (by decide) (hA.keep hb))
  have HPB := Lib.hid (fun (L : List Ent) (R : List Thing) (g : Nat) (A : Option Addr) (c : Nat) (w' : World) (hM : Mem [] w (⟨g, 90, 35, sgrC sd0 1 A 2 c 1⟩ :: L) R w') (hR : ndT (.slice A 2 c) (lvsN sd0 2) ∈ R) => gpub_yes sd0 1 A 2 c (lvsN sd0 2) 1 hM hR (by decide) (lvsN_length _ _) hT)
  have HPT := Lib.hid (fun (w' : World) (hb : Below w.heap.size w w') => ptext_yes 1 (rootN (lvsN sd0 2)) w' (by decide) (by decide) (hA.keep hb))
  have HVE := Lib.hid (fun (B : Option Addr) (c : Nat) (w' : World) (hr : NIn w' B 1 (sibsF (lvsN sd0 2) 0 1)) (hb : Below w.heap.size w w') => gver_any 1 (rootN (lvsN sd0 2)) d1 0 (sgCh sd0 0 d1) B 1 c (sibsF (lvsN sd0 2) 0 1) w' hr (hT.keep hb))
  rw [show verE 1 (rootN (lvsN sd0 2)) d1 0 (sgCh sd0 0 d1) 1 (sibsF (lvsN sd0 2) 0 1) = 0 from ver_sig sd0 1 0 d1 (by decide) (by decide) (by decide)] at HVE
  have l1 : (encT (sigBs 0 1 (sgCh sd0 0 d1) (sibsF (lvsN sd0 2) 0 1))).length = 772 := by rw [encT_length, sigBs_length, sibsF_length]
  have l2 : (encT (pubBs 1 (rootN (lvsN sd0 2)))).length = 24 := by rw [encT_length, pubBs_length]
  simp only [Int.natCast_zero, Int.natCast_one, Int.zero_add] at HSG HTX HPB HPT HVE HN HSU
  simp only [show (2 : Nat) ^ 1 = 2 from rfl] at HN
  have b1 := bstr_size (encT (sigBs 0 1 (sgCh sd0 0 d1) (sibsF (lvsN sd0 2) 0 1)))
  have b2 := bstr_size (encT (pubBs 1 (rootN (lvsN sd0 2))))
  rw [l1] at b1
  rw [l2] at b2
  generalize sgCh sd0 0 d1 = ch at HSG HTX HVE b1
  generalize rootN (lvsN sd0 2) = Z at HPB HPT HVE b2
  generalize sibsF (lvsN sd0 2) 0 1 = P at HSG HTX HVE b1
  generalize lvsN sd0 2 = lv at HN HSG HSU HPB
  generalize bstr (encT (sigBs 0 1 ch P)) = T1 at HTX b1
  generalize bstr (encT (pubBs 1 Z)) = T2 at HPT b2
  generalize pubC 1 Z = PC at HPB HPT HVE
  clear hT hA l1 l2
  go_enter Tryd.func5, Tryd.ntmps5
  go_wp2_with (first | ((with_reducible refine at_build ?_); first | refine lbsec1 ?_ | refine lbd1 ?_ | refine lbd2 ?_))
  refine HN.out.mono ?_
  rintro e w1 ⟨g, A, c, rfl, hM⟩
  clear HN
  go_wp2_with (first | ((with_reducible refine at_build ?_); first | refine lbsec1 ?_ | refine lbd1 ?_ | refine lbd2 ?_))
  refine (HSG.out _ _ _ _ _ _ hM (List.Mem.head _)).mono ?_
  clear hM
  rintro e w2 ⟨B, c2, rfl, hM⟩
  clear HSG
  go_wp2_with (first | ((with_reducible refine at_build ?_); first | refine lbsec1 ?_ | refine lbd1 ?_ | refine lbd2 ?_) | ((with_reducible refine at_alloc ?_); refine slz hM ?_ (hz := zero_sgn); clear hM; intro g3 w1 hM) | ((with_reducible refine at_store ?_); refine slw hM ?_ (hs := sigC_size _ _ _ _ _) (h1 := sigC_one _ _ _ _ _) (hty := row_sgn); clear hM; intro wx hM))
  replace hM := hM.permL (List.Perm.swap _ _ _)
  refine (HSU.out _ _ _ _ _ _ hM).mono ?_
  clear hM
  rintro e w2 ⟨rfl, hM⟩
  clear HSU
  go_wp2_with (first | ((with_reducible refine at_build ?_); first | refine lbsec1 ?_ | refine lbd1 ?_ | refine lbd2 ?_) | ((with_reducible refine at_alloc ?_); refine slz hM ?_ (hz := zero_sgn); clear hM; intro g5 w1 hM) | ((with_reducible refine at_store ?_); refine slw hM ?_ (hs := sigC_size _ _ _ _ _) (h1 := sigC_one _ _ _ _ _) (hty := row_sgn); clear hM; intro wx hM) | ((with_reducible refine at_load ?_); refine sll hM ?_ (hty := row_sgn)))
  replace hM := hM.subL (L' := [_, _]) (List.sublist_cons_self _ _)
  refine (HTX.out _ _ _ (p16T_in (hM.thing _ (List.Mem.head _))) hM.below).mono ?_
  rintro e w2 ⟨rfl, hb⟩
  replace hM := hM.step hb
  clear hb HTX
  go_wp2_with fail
  refine (HPB.out _ _ _ _ _ _ hM (List.Mem.tail _ (List.Mem.head _))).mono ?_
  clear hM
  rintro e w2 ⟨rfl, hM⟩
  go_wp2_with fail
  refine (HPT.out _ hM.below).mono ?_
  rintro e w2 ⟨rfl, hb⟩
  replace hM := hM.step hb
  clear hb HPT
  go_upto_region 6 with fail
  refine Go.Bul.wp_region_class (Mem _ w _ _) (by kernel_rfl) (by kernel_rfl) hM.drew ?_
  repeat ((with_reducible refine wpQuiet_step (fun K hK => ?_)); (first | ((first | ((with_reducible refine quiet_some ?_ ?_); (· rfl)) | ((with_reducible refine Go.Thg.quiet_wanted ?_ ?_); (· rfl))); apply Exists.intro; refine ⟨fun w' hM' => ?_, ?_⟩; (· first | (go_simp; rfl) | (go_simp; with_reducible refine at_calls ?_; exact HPB.out _ _ _ _ _ _ hM' (List.Mem.tail _ (List.Mem.head _))) | (go_simp; with_reducible refine at_calls ?_; exact quiet_mem_call hM' (HVE.out _ _ _ (p16T_in (hM'.thing _ (List.Mem.head _))) hM'.below)) | exact sql hM' (hty := row_sgn) | exact qc hM' | exact ql hM' | exact qp hM')) | ((with_reducible refine Go.Thg.quiet_unwanted ?_ ?_); (· rfl))); go_simp; (with_reducible refine hK _ ?_); clear hK K)
  (with_reducible refine wpQuiet_step (fun K hK => ?_))
  (with_reducible refine Go.Thg.quiet_wanted ?_ ?_)
  · rfl
  apply Exists.intro
  refine ⟨fun w' hM' => ?_, ?_⟩
  · go_simp
    with_reducible refine at_calls ?_
    exact quiet_mem_call hM' (HVE.out _ _ _ (p16T_in (hM'.thing _ (List.Mem.head _))) hM'.below)
  go_simp
  with_reducible refine hK _ ?_
  clear hK K
  repeat ((with_reducible refine wpQuiet_step (fun K hK => ?_)); (first | ((first | ((with_reducible refine quiet_some ?_ ?_); (· rfl)) | ((with_reducible refine Go.Thg.quiet_wanted ?_ ?_); (· rfl))); apply Exists.intro; refine ⟨fun w' hM' => ?_, ?_⟩; (· first | (go_simp; rfl) | fail | exact qc hM' | exact ql hM' | exact qp hM')) | ((with_reducible refine Go.Thg.quiet_unwanted ?_ ?_); (· rfl))); go_simp; (with_reducible refine hK _ ?_); clear hK K)
  refine wpQuiet_nil ?_
  intro wx hM
  go_wp2_with fail
  go_ret
  exact ⟨rfl, hM.below⟩
end Go.Proofs.YtbbdnlcjjcmllaaDoor
