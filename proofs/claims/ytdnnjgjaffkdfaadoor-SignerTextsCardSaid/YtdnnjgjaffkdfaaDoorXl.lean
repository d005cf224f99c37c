/- The walk of SignerTexts. SignerTexts: what came in. -/
import Derived.Test.YtdnnjgjaffkdfaaDoorSbj
import Derived.Test.YtdnnjgjaffkdfaaDoorSbl
import Derived.Test.YtdnnjgjaffkdfaaDoorXe
import Derived.Test.YtdnnjgjaffkdfaaDoorSkr
import Derived.Test.YtdnnjgjaffkdfaaDoorSdi
import Derived.Test.YtdnnjgjaffkdfaaDoorXh
import Derived.Test.YtdnnjgjaffkdfaaDoorSfa
namespace Go.Lin
open Go Go.Bul
theorem pub_pp {h : Nat} {r : Nd} (h1 : 1 ≤ h) (h8 : h ≤ 8) {z : Int} {s : Nd} {er : Nat} (a : PP (pubBs h r) 0 z s er) : z = (h : Nat) ∧ s = r ∧ er = 0 := by
  have b : PP (pubBs h r) 0 (h : Nat) r 0 := ⟨by
    unfold ppE
    rw [if_neg (by simp), if_neg (by rw [pubBs_length]; omega), if_neg (by rw [pubBs_length]; omega), if_pos]
    exact ⟨h1, h8⟩, fun h => absurd rfl h, fun _ => ⟨rfl, rfl⟩⟩
  exact a.one b
theorem sig_ps {k n : Nat} {ch : Ch} {path : List Nd} (hn : n = path.length) (hc : sgE (k : Nat) n = 0) {l : Int} {c : Ch} {P : List Nd} {er : Nat} (a : PSig (sigBs k n ch path) 0 l c P er) : l = (k : Nat) ∧ c = ch ∧ P = path ∧ er = 0 := by
  have e3 : sigBs k n ch path = 0 :: k :: n :: (ch.val ++ ndBs path) := by simp [sigBs]
  have hl := sigBs_length k n ch path
  have b : PSig (sigBs k n ch path) 0 (k : Nat) ch path 0 := by
    refine ⟨?_, fun h => absurd rfl h, fun _ => ⟨?_, ?_, ?_⟩⟩
    · unfold psE
      have g2 : (sigBs k n ch path).getD 2 0 = n := by rw [e3]; rfl
      have g0 : numV ((sigBs k n ch path).take 2) = k := by rw [e3]; simp [numV]
      rw [if_neg (by simp), if_neg (by omega), g2, if_neg (by omega), if_neg (by omega), g0, if_pos hc]
    · rw [e3]; simp [numV]
    · rw [e3]
      show ch.val = (ch.val ++ ndBs path).take 560
      rw [List.take_append_of_le_length (by rw [ch.len]; exact Nat.le_refl _), List.take_of_length_le (by rw [ch.len]; exact Nat.le_refl _)]
    · rw [e3]
      show ndBs path = (ch.val ++ ndBs path).drop 560
      rw [List.drop_append_of_le_length (by rw [ch.len]; exact Nat.le_refl _), List.drop_of_length_le (by rw [ch.len]; exact Nat.le_refl _), List.nil_append]
  exact a.one b
end Go.Lin
namespace Go.Proofs.YtdnnjgjaffkdfaaDoor
open Go Go.RowKit Go.Bul Go.Thg Go.Lin
theorem dec_text {bs : List Nat} (hB : Bytes bs) : decE (nums (bstr (encT bs))) = 0 ∧ decB (nums (bstr (encT bs))) = bs := by
  rw [nums_bstr (encT_bytes hB)]
  exact dec_enc bs hB
theorem ppub_text (h : Nat) (r : Nd) (w : World) (h1 : 1 ≤ h) (h8 : h ≤ 8) (hA : Alp w) : Calls Tryd.prog 40 #[.string (bstr (encT (pubBs h r)))] w fun e w' => e = .returned (.tuple #[.agg (pubC (h : Nat) r), .int .i64 0]) ∧ Below w.heap.size w w' := by
  obtain ⟨d1, d2⟩ := dec_text (pubBs_bytes (h := h) (r := r) (by omega))
  have H := ppub_any (bstr (encT (pubBs h r))) w (by rw [bstr_size, encT_length, pubBs_length]; decide) hA
  rw [d1, d2] at H
  refine H.mono ?_
  rintro e w1 ⟨z, s, er, rfl, hP, hb⟩
  obtain ⟨rfl, rfl, rfl⟩ := pub_pp h1 h8 hP
  exact ⟨rfl, hb⟩
theorem psig_text (k n : Nat) (ch : Ch) (path : List Nd) (w : World) (hn : n = path.length) (hc : sgE (k : Nat) n = 0) (hA : Alp w) : Calls Tryd.prog 43 #[.string (bstr (encT (sigBs k n ch path)))] w fun e w' => ∃ E m c, e = .returned (.tuple #[.agg (sigC (k : Nat) ch E m c), .int .i64 0]) ∧ Becomes [] w (p16T (.slice E m c) path) w' := by
  obtain ⟨b1, b8, bk⟩ := sgE_bounds hc
  obtain ⟨d1, d2⟩ := dec_text (sigBs_bytes (leaf := k) (n := n) bk (by omega) ch path)
  have H := psig_any (bstr (encT (sigBs k n ch path))) w (by rw [bstr_size, encT_length, sigBs_length]; omega) hA
  rw [d1, d2] at H
  refine H.mono ?_
  rintro e w1 ⟨l, c, E, m, d, P, er, rfl, hS, hb⟩
  obtain ⟨rfl, rfl, rfl, rfl⟩ := sig_ps hn hc hS
  exact ⟨E, m, d, rfl, hb⟩
set_option maxRecDepth 20000 in
set_option maxHeartbeats 8000000 in
theorem stext_any (h : Int) (r : Nd) (leaf : Int) (ch : Ch) (A : Option Addr) (n c : Nat) (path : List Nd) (w : World) (hr : NIn w A n path) (hT : Tab w) (hA : Alp w) :
    Calls Tryd.prog 8 #[.int .i64 h, .agg (ndC r), .agg (sigC leaf ch A n c)] w fun e w' => e = .returned (.bool true) ∧ Below w.heap.size w w' := by
  have hM := Mem.start [] w
  have HS := Lib.hid (sigC_size leaf ch A n c)
  have HK := Lib.hid (fun w' (hb : Below w.heap.size w w') => known_any w' (hT.keep hb) (hA.keep hb))
  have HF := Lib.hid (fun w => few_any leaf ch A n c w)
  by_cases h20 : n ≤ 20
  · rw [decide_eq_true h20] at HF
    have HO := Lib.hid (fun w' (hb : Below w.heap.size w w') => lown_any leaf ch A n c path w' (hr.keep hb) (by omega))
    have HPK := Lib.hid (fun w => pcheck_any h r w)
    have HRK := Lib.hid (fun w => rchk_any leaf ch A n c w (by omega))
    by_cases hp : hE h = 0
    · obtain ⟨hn, rfl, h1, h8⟩ : ∃ hn : Nat, h = (hn : Nat) ∧ 1 ≤ hn ∧ hn ≤ 8 := by
        unfold hE at hp
        split at hp
        · exact ⟨h.toNat, by omega, by omega, by omega⟩
        · cases hp
      rw [hp] at HPK
      have HPT := Lib.hid (fun w' (hb : Below w.heap.size w w') => ptext_yes hn r w' h1 h8 (hA.keep hb))
      have HPP := Lib.hid (fun w' (hb : Below w.heap.size w w') => ppub_text hn r w' h1 h8 (hA.keep hb))
      have HRB := Lib.hid (fun w' => rbytes_any hn r w' (by omega))
      have HRE := Lib.hid (fun B c' w' (hr : Reads w' 1 B 17 (vals .u8 (pubBs hn r))) => rencode_any B 17 c' (pubBs hn r) w' hr (pubBs_bytes (by omega)) (by decide) (by decide))
      have qp := eq_pub (hn : Nat) (hn : Nat) r r
      rw [show ((hn : Int) == (hn : Int) && decide (r = r)) = true by simp] at qp
      generalize bstr (encT (pubBs hn r)) = SP at HPT HPP HRE
      by_cases hc : sgE leaf n = 0
      · obtain ⟨k, rfl⟩ : ∃ k : Nat, leaf = (k : Nat) := by
          unfold sgE at hc
          split at hc
          · exact ⟨leaf.toNat, by omega⟩
          · cases hc
        rw [hc] at HRK
        have HGT := Lib.hid (fun B c' w' (hr : NIn w' B n path) (hb : Below w.heap.size w w') => gtext_yes k ch B n c' path w' hr hc (hA.keep hb))
        have HPS := Lib.hid (fun w' (hb : Below w.heap.size w w') => psig_text k n ch path w' hr.len hc (hA.keep hb))
        have HRT := Lib.hid (fun w' (hb : Below w.heap.size w w') => rtext_any k ch A n c path w' (hr.keep hb) hc)
        have HSM := Lib.hid (fun B c' n2 w' (h1 : NIn w' B n2 path) (hb : Below w.heap.size w w') => rsame_any (k : Nat) (k : Nat) ch ch B A n2 c' n c path path w' h1 (hr.keep hb) (by have := h1.len; have := hr.len; omega) (by omega))
        simp only [decide_true, and_self] at HSM
        have HB := Lib.hid (fun E m c' w' (h1 : NIn w' E m path) => lback_any (k : Nat) ch E m c' path w' h1 (by have := h1.len; have := hr.len; omega))
        generalize bstr (encT (sigBs k n ch path)) = TS at HGT HPS HRT
        go_enter Tryd.func8, Tryd.ntmps8
        go_upto_region 13 with (first | ((with_reducible refine at_box ?_); first | (refine slb hM ?_ (hty := row_rsg) (hn := HS.out); clear hM; intro g5 w1 hM) | (refine slb hM ?_ (hty := row_a16) (hn := ndC_size _); clear hM; intro g4 w1 hM)) | ((with_reducible refine (HK.out _ hM.below).mono ?_); rintro e w1 ⟨rfl, hb⟩; replace hM := hM.step hb; clear hb) | ((with_reducible refine (HF.out _).mono ?_); rintro e w1 ⟨rfl, hb⟩; replace hM := hM.step hb; clear hb) | ((first | with_reducible refine at_load ?_ | ((with_reducible refine at_load_g ?_ ?_); (· rfl))); first | refine sll hM ?_ (hty := row_rsg) | refine sll hM ?_ (hty := row_a16) | refine sll hM ?_ (hty := row_pub) | refine sll hM ?_ (hty := row_sgn)) | ((with_reducible refine at_build ?_); refine lbpub ?_) | ((with_reducible refine at_alloc ?_); first | (refine slz hM ?_ (hz := zero_pub); clear hM; intro g7 w1 hM) | (refine slz hM ?_ (hz := zero_sgn); clear hM; intro g9 w1 hM)) | ((with_reducible refine at_store ?_); first | (refine slw hM ?_ (hs := pubC_size _ _) (h1 := pubC_one _ _) (hty := row_pub); clear hM; intro wx hM) | (refine slw hM ?_ (hs := sigC_size _ _ _ _ _) (h1 := sigC_one _ _ _ _ _) (hty := row_sgn); clear hM; intro wx hM)) | ((with_reducible refine (HPT.out _ hM.below).mono ?_); rintro e w1 ⟨rfl, hb⟩; replace hM := hM.step hb; clear hb) | ((with_reducible refine (HO.out _ hM.below).mono ?_); rintro e w1 ⟨B2, c2, rfl, hb⟩; replace hM := hM.newThing hb; clear hb) | ((with_reducible refine (HGT.out _ _ _ (p16T_in (hM.thing _ (List.Mem.head _))) hM.below).mono ?_); rintro e w1 ⟨rfl, hb⟩; replace hM := hM.step hb; clear hb) | ((with_reducible refine (HPK.out _).mono ?_); rintro e w1 ⟨rfl, hb⟩; replace hM := hM.step hb; clear hb) | ((with_reducible refine (HRK.out _).mono ?_); rintro e w1 ⟨rfl, hb⟩; replace hM := hM.step hb; clear hb) | ((with_reducible refine (HPP.out _ hM.below).mono ?_); rintro e w1 ⟨rfl, hb⟩; replace hM := hM.step hb; clear hb) | ((with_reducible refine (HRB.out _).mono ?_); rintro e w1 ⟨A3, c3, rfl, hb⟩; replace hM := hM.newThing hb; clear hb) | ((with_reducible refine (HRE.out _ _ _ (bT_reads (hM.thing _ (List.Mem.head _))).1).mono ?_); rintro e w1 ⟨rfl, rfl⟩) | ((with_reducible refine (HPS.out _ hM.below).mono ?_); rintro e w1 ⟨E4, n4, c4, rfl, hb⟩; replace hM := hM.newThing hb; clear hb) | ((with_reducible refine (HPZ.out _ hM.below).mono ?_); rintro e w1 ⟨lf4, ch4, E4, n4, c4, P4, er4, rfl, hS4, hb⟩; replace hM := hM.newThing hb; clear hb hS4))
        replace hM := hM.subL (L' := [_, _]) (List.Sublist.cons_cons _ (List.Sublist.cons _ (List.Sublist.cons _ (List.Sublist.cons_cons _ (List.nil_sublist _)))))
        generalize sigC (k : Nat) ch A n c = X at hM HRT HSM
        have HBK := Lib.hid (fun w' h1 => HB.out E4 n4 c4 w' h1)
        generalize sigC (k : Nat) ch E4 n4 c4 = Y4 at hM HBK
        clear HB
        obtain ⟨g9, hg9⟩ := hM.name1
        subst hg9
        refine wp_region_allHM hM (HeldM [⟨g9, 31, 562, Y4⟩, ⟨g5, 26, 562, X⟩]) (by kernel_rfl) ?_
        clear hM
        intro wd hM
        have hS := HeldM.of hM
        refine wpAllH_takes [0, 1, 2, 3, 4] (by kernel_rfl) (fun _ _ _ _ _ h => h) hS (by kernel_rfl) ?_
        simp only [pickOps, List.filterMap_cons, List.filterMap_nil, List.getElem?_cons_zero, List.getElem?_cons_succ]
        repeat ((with_reducible apply wpHeld_stepG); (· rfl); (· (intro w hSw; first | (go_simp; rfl) | ((obtain ⟨_, _, _, hM'⟩ := hSw; first | exact yields_load (C := fun _ => True) (sql hM' (hty := row_rsg)) rfl | exact yields_load (C := fun _ => True) (sql hM' (hty := row_sgn)) rfl)))); intro K hK; go_simp; (with_reducible refine hK _ ?_); clear hK K)
        refine wpHeld_nil ?_
        refine wpAllH_one 5 rfl (by kernel_rfl) ?_
        go_wp2_with fail
        refine (HRT.out _ hM.below).mono ?_
        rintro e w1 ⟨rfl, hb⟩
        replace hM := hM.step hb
        clear hb hS
        have hS := HeldM.of hM
        go_wp2_with fail
        refine then_normal ⟨hS, ?_⟩
        refine wpAllH_takes [6, 7, 8, 9, 10, 11, 12, 14] (by kernel_rfl) (fun _ _ _ _ _ h => h) hS (by kernel_rfl) ?_
        simp only [pickOps, List.filterMap_cons, List.filterMap_nil, List.getElem?_cons_zero, List.getElem?_cons_succ]
        repeat ((with_reducible apply wpHeld_stepG); (· rfl); (· (intro w hSw; first | (go_simp; rfl) | ((obtain ⟨_, _, _, hM'⟩ := hSw; first | exact yields_load (C := fun _ => True) (sql hM' (hty := row_rsg)) rfl | exact yields_load (C := fun _ => True) (sql hM' (hty := row_sgn)) rfl)))); intro K hK; go_simp; (with_reducible refine hK _ ?_); clear hK K)
        refine wpHeld_nil ?_
        refine wpAllH_one 13 rfl (by kernel_rfl) ?_
        go_wp2_with fail
        refine (HBK.out _ (p16T_in (hM.thing _ (List.Mem.head _)))).mono ?_
        rintro e w1 ⟨B5, c5, rfl, hb⟩
        replace hM := hM.newThing hb
        clear hb hS
        have hS := HeldM.of hM
        go_wp2_with fail
        refine then_normal ⟨hS, ?_⟩
        refine wpAllH_one 15 rfl (by kernel_rfl) ?_
        go_wp2_with fail
        refine (HSM.out _ _ _ _ (p16T_in (hM.thing _ (List.Mem.head _))) hM.below).mono ?_
        rintro e w1 ⟨rfl, hb⟩
        replace hM := hM.step hb
        clear hb hS
        have hS := HeldM.of hM
        go_wp2_with fail
        refine then_normal ⟨hS, ?_⟩
        refine wpAllH_takes [16, 17, 18] (by kernel_rfl) (fun _ _ _ _ _ h => h) hS (by kernel_rfl) ?_
        simp only [pickOps, List.filterMap_cons, List.filterMap_nil, List.getElem?_cons_zero, List.getElem?_cons_succ]
        repeat ((with_reducible apply wpHeld_stepG); (· rfl); (· (intro w hSw; first | (go_simp; rfl) | (fail))); intro K hK; go_simp; (with_reducible refine hK _ ?_); clear hK K)
        refine wpHeld_nil ?_
        refine wpAllH_done (by kernel_rfl) ?_
        go_wp2_with fail
        go_ret
        exact ⟨rfl, hM.below⟩
      · have hc2 : sgE leaf n = 2 := (sgE_or leaf n).resolve_left hc
        rw [hc2] at HRK
        have HGT := Lib.hid (fun B c' w' (_ : NIn w' B n path) (_ : Below w.heap.size w w') => show Calls _ _ _ _ fun e w'' => e = .returned (.tuple #[.string ⟨#[]⟩, .int .i64 2]) ∧ Below w'.heap.size w' w'' from gtext_no leaf ch B n c' w' hc2)
        have HPZ := Lib.hid (fun w' (hb : Below w.heap.size w w') => psig_any ⟨#[]⟩ w' (Nat.zero_le _) (hA.keep hb))
        go_enter Tryd.func8, Tryd.ntmps8
        go_upto_region 13 with (first | ((with_reducible refine at_box ?_); first | (refine slb hM ?_ (hty := row_rsg) (hn := HS.out); clear hM; intro g5 w1 hM) | (refine slb hM ?_ (hty := row_a16) (hn := ndC_size _); clear hM; intro g4 w1 hM)) | ((with_reducible refine (HK.out _ hM.below).mono ?_); rintro e w1 ⟨rfl, hb⟩; replace hM := hM.step hb; clear hb) | ((with_reducible refine (HF.out _).mono ?_); rintro e w1 ⟨rfl, hb⟩; replace hM := hM.step hb; clear hb) | ((first | with_reducible refine at_load ?_ | ((with_reducible refine at_load_g ?_ ?_); (· rfl))); first | refine sll hM ?_ (hty := row_rsg) | refine sll hM ?_ (hty := row_a16) | refine sll hM ?_ (hty := row_pub) | refine sll hM ?_ (hty := row_sgn)) | ((with_reducible refine at_build ?_); refine lbpub ?_) | ((with_reducible refine at_alloc ?_); first | (refine slz hM ?_ (hz := zero_pub); clear hM; intro g7 w1 hM) | (refine slz hM ?_ (hz := zero_sgn); clear hM; intro g9 w1 hM)) | ((with_reducible refine at_store ?_); first | (refine slw hM ?_ (hs := pubC_size _ _) (h1 := pubC_one _ _) (hty := row_pub); clear hM; intro wx hM) | (refine slw hM ?_ (hs := sigC_size _ _ _ _ _) (h1 := sigC_one _ _ _ _ _) (hty := row_sgn); clear hM; intro wx hM)) | ((with_reducible refine (HPT.out _ hM.below).mono ?_); rintro e w1 ⟨rfl, hb⟩; replace hM := hM.step hb; clear hb) | ((with_reducible refine (HO.out _ hM.below).mono ?_); rintro e w1 ⟨B2, c2, rfl, hb⟩; replace hM := hM.newThing hb; clear hb) | ((with_reducible refine (HGT.out _ _ _ (p16T_in (hM.thing _ (List.Mem.head _))) hM.below).mono ?_); rintro e w1 ⟨rfl, hb⟩; replace hM := hM.step hb; clear hb) | ((with_reducible refine (HPK.out _).mono ?_); rintro e w1 ⟨rfl, hb⟩; replace hM := hM.step hb; clear hb) | ((with_reducible refine (HRK.out _).mono ?_); rintro e w1 ⟨rfl, hb⟩; replace hM := hM.step hb; clear hb) | ((with_reducible refine (HPP.out _ hM.below).mono ?_); rintro e w1 ⟨rfl, hb⟩; replace hM := hM.step hb; clear hb) | ((with_reducible refine (HRB.out _).mono ?_); rintro e w1 ⟨A3, c3, rfl, hb⟩; replace hM := hM.newThing hb; clear hb) | ((with_reducible refine (HRE.out _ _ _ (bT_reads (hM.thing _ (List.Mem.head _))).1).mono ?_); rintro e w1 ⟨rfl, rfl⟩) | ((with_reducible refine (HPS.out _ hM.below).mono ?_); rintro e w1 ⟨E4, n4, c4, rfl, hb⟩; replace hM := hM.newThing hb; clear hb) | ((with_reducible refine (HPZ.out _ hM.below).mono ?_); rintro e w1 ⟨lf4, ch4, E4, n4, c4, P4, er4, rfl, hS4, hb⟩; replace hM := hM.newThing hb; clear hb hS4))
        refine Go.Bul.wp_region_class (Mem _ w _ _) (by kernel_rfl) (by kernel_rfl) hM.drew ?_
        repeat ((with_reducible refine wpQuiet_step (fun K hK => ?_)); (first | ((first | ((with_reducible refine quiet_some ?_ ?_); (· rfl)) | ((with_reducible refine Go.Thg.quiet_wanted ?_ ?_); (· rfl))); apply Exists.intro; refine ⟨fun w' hM' => ?_, ?_⟩; (· first | (go_simp; rfl) | fail | exact qc hM' | exact ql hM' | exact qp hM')) | ((with_reducible refine Go.Thg.quiet_unwanted ?_ ?_); (· rfl))); go_simp; (with_reducible refine hK _ ?_); clear hK K)
        refine wpQuiet_nil ?_
        intro wx hM
        go_wp2_with fail
        go_ret
        exact ⟨rfl, hM.below⟩
    · have hp2 : hE h = 2 := by unfold hE at hp ⊢; split at hp <;> simp_all
      rw [hp2] at HPK
      have HPT := Lib.hid (fun w' (_ : Below w.heap.size w w') => show Calls _ _ _ _ fun e w'' => e = .returned (.tuple #[.string ⟨#[]⟩, .int .i64 2]) ∧ Below w'.heap.size w' w'' from ptext_no h r w' hp2)
      by_cases hc : sgE leaf n = 0
      · obtain ⟨k, rfl⟩ : ∃ k : Nat, leaf = (k : Nat) := by
          unfold sgE at hc
          split at hc
          · exact ⟨leaf.toNat, by omega⟩
          · cases hc
        rw [hc] at HRK
        have HGT := Lib.hid (fun B c' w' (hr : NIn w' B n path) (hb : Below w.heap.size w w') => gtext_yes k ch B n c' path w' hr hc (hA.keep hb))
        have HPS := Lib.hid (fun w' (hb : Below w.heap.size w w') => psig_text k n ch path w' hr.len hc (hA.keep hb))
        have HRT := Lib.hid (fun w' (hb : Below w.heap.size w w') => rtext_any k ch A n c path w' (hr.keep hb) hc)
        have HSM := Lib.hid (fun B c' n2 w' (h1 : NIn w' B n2 path) (hb : Below w.heap.size w w') => rsame_any (k : Nat) (k : Nat) ch ch B A n2 c' n c path path w' h1 (hr.keep hb) (by have := h1.len; have := hr.len; omega) (by omega))
        simp only [decide_true, and_self] at HSM
        have HB := Lib.hid (fun E m c' w' (h1 : NIn w' E m path) => lback_any (k : Nat) ch E m c' path w' h1 (by have := h1.len; have := hr.len; omega))
        generalize bstr (encT (sigBs k n ch path)) = TS at HGT HPS HRT
        go_enter Tryd.func8, Tryd.ntmps8
        go_upto_region 13 with (first | ((with_reducible refine at_box ?_); first | (refine slb hM ?_ (hty := row_rsg) (hn := HS.out); clear hM; intro g5 w1 hM) | (refine slb hM ?_ (hty := row_a16) (hn := ndC_size _); clear hM; intro g4 w1 hM)) | ((with_reducible refine (HK.out _ hM.below).mono ?_); rintro e w1 ⟨rfl, hb⟩; replace hM := hM.step hb; clear hb) | ((with_reducible refine (HF.out _).mono ?_); rintro e w1 ⟨rfl, hb⟩; replace hM := hM.step hb; clear hb) | ((first | with_reducible refine at_load ?_ | ((with_reducible refine at_load_g ?_ ?_); (· rfl))); first | refine sll hM ?_ (hty := row_rsg) | refine sll hM ?_ (hty := row_a16) | refine sll hM ?_ (hty := row_pub) | refine sll hM ?_ (hty := row_sgn)) | ((with_reducible refine at_build ?_); refine lbpub ?_) | ((with_reducible refine at_alloc ?_); first | (refine slz hM ?_ (hz := zero_pub); clear hM; intro g7 w1 hM) | (refine slz hM ?_ (hz := zero_sgn); clear hM; intro g9 w1 hM)) | ((with_reducible refine at_store ?_); first | (refine slw hM ?_ (hs := pubC_size _ _) (h1 := pubC_one _ _) (hty := row_pub); clear hM; intro wx hM) | (refine slw hM ?_ (hs := sigC_size _ _ _ _ _) (h1 := sigC_one _ _ _ _ _) (hty := row_sgn); clear hM; intro wx hM)) | ((with_reducible refine (HPT.out _ hM.below).mono ?_); rintro e w1 ⟨rfl, hb⟩; replace hM := hM.step hb; clear hb) | ((with_reducible refine (HO.out _ hM.below).mono ?_); rintro e w1 ⟨B2, c2, rfl, hb⟩; replace hM := hM.newThing hb; clear hb) | ((with_reducible refine (HGT.out _ _ _ (p16T_in (hM.thing _ (List.Mem.head _))) hM.below).mono ?_); rintro e w1 ⟨rfl, hb⟩; replace hM := hM.step hb; clear hb) | ((with_reducible refine (HPK.out _).mono ?_); rintro e w1 ⟨rfl, hb⟩; replace hM := hM.step hb; clear hb) | ((with_reducible refine (HRK.out _).mono ?_); rintro e w1 ⟨rfl, hb⟩; replace hM := hM.step hb; clear hb) | ((with_reducible refine (HPP.out _ hM.below).mono ?_); rintro e w1 ⟨rfl, hb⟩; replace hM := hM.step hb; clear hb) | ((with_reducible refine (HRB.out _).mono ?_); rintro e w1 ⟨A3, c3, rfl, hb⟩; replace hM := hM.newThing hb; clear hb) | ((with_reducible refine (HRE.out _ _ _ (bT_reads (hM.thing _ (List.Mem.head _))).1).mono ?_); rintro e w1 ⟨rfl, rfl⟩) | ((with_reducible refine (HPS.out _ hM.below).mono ?_); rintro e w1 ⟨E4, n4, c4, rfl, hb⟩; replace hM := hM.newThing hb; clear hb) | ((with_reducible refine (HPZ.out _ hM.below).mono ?_); rintro e w1 ⟨lf4, ch4, E4, n4, c4, P4, er4, rfl, hS4, hb⟩; replace hM := hM.newThing hb; clear hb hS4))
        replace hM := hM.subL (L' := [_, _]) (List.Sublist.cons_cons _ (List.Sublist.cons _ (List.Sublist.cons_cons _ (List.nil_sublist _))))
        generalize sigC (k : Nat) ch A n c = X at hM HRT HSM
        have HBK := Lib.hid (fun w' h1 => HB.out E4 n4 c4 w' h1)
        generalize sigC (k : Nat) ch E4 n4 c4 = Y4 at hM HBK
        clear HB
        obtain ⟨g9, hg9⟩ := hM.name1
        subst hg9
        refine wp_region_allHM hM (HeldM [⟨g9, 31, 562, Y4⟩, ⟨g5, 26, 562, X⟩]) (by kernel_rfl) ?_
        clear hM
        intro wd hM
        have hS := HeldM.of hM
        refine wpAllH_takes [0, 1, 2, 3, 4] (by kernel_rfl) (fun _ _ _ _ _ h => h) hS (by kernel_rfl) ?_
        simp only [pickOps, List.filterMap_cons, List.filterMap_nil, List.getElem?_cons_zero, List.getElem?_cons_succ]
        repeat ((with_reducible apply wpHeld_stepG); (· rfl); (· (intro w hSw; first | (go_simp; rfl) | ((obtain ⟨_, _, _, hM'⟩ := hSw; first | exact yields_load (C := fun _ => True) (sql hM' (hty := row_rsg)) rfl | exact yields_load (C := fun _ => True) (sql hM' (hty := row_sgn)) rfl)))); intro K hK; go_simp; (with_reducible refine hK _ ?_); clear hK K)
        refine wpHeld_nil ?_
        refine wpAllH_one 5 rfl (by kernel_rfl) ?_
        go_wp2_with fail
        refine (HRT.out _ hM.below).mono ?_
        rintro e w1 ⟨rfl, hb⟩
        replace hM := hM.step hb
        clear hb hS
        have hS := HeldM.of hM
        go_wp2_with fail
        refine then_normal ⟨hS, ?_⟩
        refine wpAllH_takes [6, 7, 8, 9, 10, 11, 12, 14] (by kernel_rfl) (fun _ _ _ _ _ h => h) hS (by kernel_rfl) ?_
        simp only [pickOps, List.filterMap_cons, List.filterMap_nil, List.getElem?_cons_zero, List.getElem?_cons_succ]
        repeat ((with_reducible apply wpHeld_stepG); (· rfl); (· (intro w hSw; first | (go_simp; rfl) | ((obtain ⟨_, _, _, hM'⟩ := hSw; first | exact yields_load (C := fun _ => True) (sql hM' (hty := row_rsg)) rfl | exact yields_load (C := fun _ => True) (sql hM' (hty := row_sgn)) rfl)))); intro K hK; go_simp; (with_reducible refine hK _ ?_); clear hK K)
        refine wpHeld_nil ?_
        refine wpAllH_one 13 rfl (by kernel_rfl) ?_
        go_wp2_with fail
        refine (HBK.out _ (p16T_in (hM.thing _ (List.Mem.head _)))).mono ?_
        rintro e w1 ⟨B5, c5, rfl, hb⟩
        replace hM := hM.newThing hb
        clear hb hS
        have hS := HeldM.of hM
        go_wp2_with fail
        refine then_normal ⟨hS, ?_⟩
        refine wpAllH_one 15 rfl (by kernel_rfl) ?_
        go_wp2_with fail
        refine (HSM.out _ _ _ _ (p16T_in (hM.thing _ (List.Mem.head _))) hM.below).mono ?_
        rintro e w1 ⟨rfl, hb⟩
        replace hM := hM.step hb
        clear hb hS
        have hS := HeldM.of hM
        go_wp2_with fail
        refine then_normal ⟨hS, ?_⟩
        refine wpAllH_takes [16, 17, 18] (by kernel_rfl) (fun _ _ _ _ _ h => h) hS (by kernel_rfl) ?_
        simp only [pickOps, List.filterMap_cons, List.filterMap_nil, List.getElem?_cons_zero, List.getElem?_cons_succ]
        repeat ((with_reducible apply wpHeld_stepG); (· rfl); (· (intro w hSw; first | (go_simp; rfl) | (fail))); intro K hK; go_simp; (with_reducible refine hK _ ?_); clear hK K)
        refine wpHeld_nil ?_
        refine wpAllH_done (by kernel_rfl) ?_
        go_wp2_with fail
        go_ret
        exact ⟨rfl, hM.below⟩
      · have hc2 : sgE leaf n = 2 := (sgE_or leaf n).resolve_left hc
        rw [hc2] at HRK
        have HGT := Lib.hid (fun B c' w' (_ : NIn w' B n path) (_ : Below w.heap.size w w') => show Calls _ _ _ _ fun e w'' => e = .returned (.tuple #[.string ⟨#[]⟩, .int .i64 2]) ∧ Below w'.heap.size w' w'' from gtext_no leaf ch B n c' w' hc2)
        have HPZ := Lib.hid (fun w' (hb : Below w.heap.size w w') => psig_any ⟨#[]⟩ w' (Nat.zero_le _) (hA.keep hb))
        go_enter Tryd.func8, Tryd.ntmps8
        go_upto_region 13 with (first | ((with_reducible refine at_box ?_); first | (refine slb hM ?_ (hty := row_rsg) (hn := HS.out); clear hM; intro g5 w1 hM) | (refine slb hM ?_ (hty := row_a16) (hn := ndC_size _); clear hM; intro g4 w1 hM)) | ((with_reducible refine (HK.out _ hM.below).mono ?_); rintro e w1 ⟨rfl, hb⟩; replace hM := hM.step hb; clear hb) | ((with_reducible refine (HF.out _).mono ?_); rintro e w1 ⟨rfl, hb⟩; replace hM := hM.step hb; clear hb) | ((first | with_reducible refine at_load ?_ | ((with_reducible refine at_load_g ?_ ?_); (· rfl))); first | refine sll hM ?_ (hty := row_rsg) | refine sll hM ?_ (hty := row_a16) | refine sll hM ?_ (hty := row_pub) | refine sll hM ?_ (hty := row_sgn)) | ((with_reducible refine at_build ?_); refine lbpub ?_) | ((with_reducible refine at_alloc ?_); first | (refine slz hM ?_ (hz := zero_pub); clear hM; intro g7 w1 hM) | (refine slz hM ?_ (hz := zero_sgn); clear hM; intro g9 w1 hM)) | ((with_reducible refine at_store ?_); first | (refine slw hM ?_ (hs := pubC_size _ _) (h1 := pubC_one _ _) (hty := row_pub); clear hM; intro wx hM) | (refine slw hM ?_ (hs := sigC_size _ _ _ _ _) (h1 := sigC_one _ _ _ _ _) (hty := row_sgn); clear hM; intro wx hM)) | ((with_reducible refine (HPT.out _ hM.below).mono ?_); rintro e w1 ⟨rfl, hb⟩; replace hM := hM.step hb; clear hb) | ((with_reducible refine (HO.out _ hM.below).mono ?_); rintro e w1 ⟨B2, c2, rfl, hb⟩; replace hM := hM.newThing hb; clear hb) | ((with_reducible refine (HGT.out _ _ _ (p16T_in (hM.thing _ (List.Mem.head _))) hM.below).mono ?_); rintro e w1 ⟨rfl, hb⟩; replace hM := hM.step hb; clear hb) | ((with_reducible refine (HPK.out _).mono ?_); rintro e w1 ⟨rfl, hb⟩; replace hM := hM.step hb; clear hb) | ((with_reducible refine (HRK.out _).mono ?_); rintro e w1 ⟨rfl, hb⟩; replace hM := hM.step hb; clear hb) | ((with_reducible refine (HPP.out _ hM.below).mono ?_); rintro e w1 ⟨rfl, hb⟩; replace hM := hM.step hb; clear hb) | ((with_reducible refine (HRB.out _).mono ?_); rintro e w1 ⟨A3, c3, rfl, hb⟩; replace hM := hM.newThing hb; clear hb) | ((with_reducible refine (HRE.out _ _ _ (bT_reads (hM.thing _ (List.Mem.head _))).1).mono ?_); rintro e w1 ⟨rfl, rfl⟩) | ((with_reducible refine (HPS.out _ hM.below).mono ?_); rintro e w1 ⟨E4, n4, c4, rfl, hb⟩; replace hM := hM.newThing hb; clear hb) | ((with_reducible refine (HPZ.out _ hM.below).mono ?_); rintro e w1 ⟨lf4, ch4, E4, n4, c4, P4, er4, rfl, hS4, hb⟩; replace hM := hM.newThing hb; clear hb hS4))
        refine Go.Bul.wp_region_class (Mem _ w _ _) (by kernel_rfl) (by kernel_rfl) hM.drew ?_
        repeat ((with_reducible refine wpQuiet_step (fun K hK => ?_)); (first | ((first | ((with_reducible refine quiet_some ?_ ?_); (· rfl)) | ((with_reducible refine Go.Thg.quiet_wanted ?_ ?_); (· rfl))); apply Exists.intro; refine ⟨fun w' hM' => ?_, ?_⟩; (· first | (go_simp; rfl) | fail | exact qc hM' | exact ql hM' | exact qp hM')) | ((with_reducible refine Go.Thg.quiet_unwanted ?_ ?_); (· rfl))); go_simp; (with_reducible refine hK _ ?_); clear hK K)
        refine wpQuiet_nil ?_
        intro wx hM
        go_wp2_with fail
        go_ret
        exact ⟨rfl, hM.below⟩
  · rw [decide_eq_false h20] at HF
    clear hT hA h20 hr
    generalize sigC leaf ch A n c = X2 at HS HF ⊢
    go_enter Tryd.func8, Tryd.ntmps8
    go_wp2_with (first | ((with_reducible refine at_box ?_); first | (refine slb hM ?_ (hty := row_rsg) (hn := HS.out); clear hM; intro g3 w1 hM) | (refine slb hM ?_ (hty := row_a16) (hn := ndC_size _); clear hM; intro g4 w1 hM)) | ((with_reducible refine (HK.out _ hM.below).mono ?_); rintro e w1 ⟨rfl, hb⟩; replace hM := hM.step hb; clear hb) | ((with_reducible refine (HF.out _).mono ?_); rintro e w1 ⟨rfl, hb⟩; replace hM := hM.step hb; clear hb) | ((first | with_reducible refine at_load ?_ | ((with_reducible refine at_load_g ?_ ?_); (· rfl))); refine sll hM ?_ (hty := row_rsg)))
    go_ret
    exact ⟨rfl, hM.below⟩
end Go.Proofs.YtdnnjgjaffkdfaaDoor
namespace Go.Proofs.YtdnnjgjaffkdfaaDoor
open Go Go.RowKit Go.Bul Go.Thg Go.Lin
theorem stext_row (h : Int) (bs : List Nat) (leaf : Int) (ch : Ch) (A : Option Addr) (n c : Nat) (path : List Nd) (w : World) (hl : bs.length = 16) (hb : Bytes bs) (hr : NIn w A n path) (hT : Tab w) (hA : Alp w) :
    Calls Tryd.prog 8 #[.int .i64 h, .agg (cellsOf .u8 bs), .agg (sigC leaf ch A n c)] w fun e w' => e = .returned (.bool true) ∧ Below w.heap.size w w' :=
  stext_any h ⟨bs, hl, hb⟩ leaf ch A n c path w hr hT hA
end Go.Proofs.YtdnnjgjaffkdfaaDoor
