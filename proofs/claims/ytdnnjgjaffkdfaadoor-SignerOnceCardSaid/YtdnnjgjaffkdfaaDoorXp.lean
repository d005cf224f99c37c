/- The walk of SignerOnce. Operations of a signer as arguments. -/
import Derived.Test.YtdnnjgjaffkdfaaDoorSbj
import Derived.Test.YtdnnjgjaffkdfaaDoorSbl
import Derived.Test.YtdnnjgjaffkdfaaDoorXb
import Derived.Test.YtdnnjgjaffkdfaaDoorSks
import Derived.Test.YtdnnjgjaffkdfaaDoorXo
import Derived.Test.YtdnnjgjaffkdfaaDoorSfa
namespace Go.Bul
open Go
theorem wpHeld_stepU {P : Program} {ops : Array Oper} {S : World → Prop} {K : Act → Prop} {a : Act} {o : Oper} {l : List Oper} (hg : Region.wanted o (yielded ops a.tmps) = false)
    (h : ∀ K' : Act → Prop, (∀ a', wpHeld P ops S K l a' → K' a') → K' (a.put o.dst undef)) : wpHeld P ops S K (o :: l) a :=
  ⟨undef, .inr ⟨hg, rfl⟩, h _ fun _ h => h⟩
end Go.Bul
namespace Go.Proofs.YtdnnjgjaffkdfaaDoor
open Go Go.RowKit Go.Bul Go.Thg Go.Lin
theorem nin_nil9 (w : World) : NIn w none 0 [] := ⟨rfl, fun h => absurd h (by omega)⟩
theorem zero_sec2 : ZeroTy Tryd.prog 48 33 (secC sd0 0) := ⟨⟨.agg _, by kernel_rfl, rfl, secC_size _ _⟩⟩
theorem fld_h (h : Int) (r : Nd) (w : World) : (Instr.field 30 (.agg (pubC h r)) 0).run Tryd.prog w = .ok (.int .i64 h) w := by
  unfold Instr.field
  have hu : Tryd.prog.underlying 30 = some (.struct (Tryd.prog.fieldsOf 30)) := by kernel_rfl
  simp only [Sem.run_bind, run_underlying hu, Result.andThen_ok, Program.fieldsOf, Tryd.underlying30]
  exact run_part_one one_int (pubC_0 h r) w
theorem fld_r (h : Int) (r : Nd) (w : World) : (Instr.field 30 (.agg (pubC h r)) 1).run Tryd.prog w = .ok (.agg (ndC r)) w := by
  unfold Instr.field
  have hu : Tryd.prog.underlying 30 = some (.struct (Tryd.prog.fieldsOf 30)) := by kernel_rfl
  simp only [Sem.run_bind, run_underlying hu, Result.andThen_ok, Program.fieldsOf, Tryd.underlying30]
  exact run_part_row row_a16 (pubC_r h r) w
set_option maxRecDepth 20000 in
set_option maxHeartbeats 8000000 in
theorem sonce_any (s : Sd) (x : Nat) (z : Int) (A : Option Addr) (n c : Nat) (os : List OpG) (w : World) (hx : x < 256) (hO : OpsG w A n os) (hT : Tab w) (hA : Alp w) :
    Calls Tryd.prog 6 #[.agg (cellsOf .u8 s.val), .int .u8 (x : Nat), .int .i64 z, .slice A n c] w fun e w' => e = .returned (.bool true) ∧ Below w.heap.size w w' := by
  have hM := Mem.start [] w
  have HS := Lib.hid (show (cellsOf .u8 s.val).size = 32 by rw [cellsOf_size, s.len])
  have HK := Lib.hid (fun w' (hb : Below w.heap.size w w') => known_any w' (hT.keep hb) (hA.keep hb))
  have HLo := Lib.hid (fun w => low_any x w hx)
  by_cases h12 : n ≤ 12
  · have q12 : ¬ (12 < n) := by omega
    have r12 : ¬ (12 < (n : Int)) := by omega
    obtain ⟨h, hh⟩ : ∃ h, 1 + x % 3 = h := ⟨_, rfl⟩
    have h1 : 1 ≤ h := by omega
    have h3 : h ≤ 3 := by omega
    rw [hh] at HLo
    have hp : 2 ^ h ≤ 2 ^ 3 := Nat.pow_le_pow_right (by decide) h3
    have hp2 : (2 : Int) ^ h = ((2 ^ h : Nat) : Int) := by simp
    have c4 : wrap64 ((2 : Int) ^ h) = (2 : Int) ^ h := by rw [hp2]; have := Int.natCast_nonneg (2 ^ h); unfold wrap64; omega
    have q0 : (0 : Int) ≤ (h : Int) := Int.natCast_nonneg _
    have q1 : (h : Int) ≤ 8 := by omega
    obtain ⟨M, hMe⟩ : ∃ M : Nat, M = 2 ^ h := ⟨_, rfl⟩
    have em : (2 : Int) ^ h = (M : Int) := by rw [hp2, hMe]
    have m0 : (0 : Int) ≤ (M : Int) := Int.natCast_nonneg _
    have m9 : (M : Int) ≤ 8 := by omega
    rw [em] at c4
    have HM := Lib.hid hMe
    clear hMe
    by_cases hz : z < 0 ∨ (2 : Int) ^ h < z
    · have HNO := Lib.hid (fun w => new_no s h z w h1 (by omega) hz)
      rw [em] at hz
      by_cases hz1 : z < 0
      · have r1 : decide (z < 0) = true := decide_eq_true hz1
        clear hz hz1 hT hA hh h1 h3 hx hp hp2 h12 hO
        go_enter Tryd.func6, Tryd.ntmps6
        go_wp2_with (first | ((with_reducible refine at_box ?_); (refine slb hM ?_ (hty := row_a32) (hn := HS.out); clear hM; intro g4 w1 hM)) | ((with_reducible refine (HK.out _ hM.below).mono ?_); rintro e w1 ⟨rfl, hb⟩; replace hM := hM.step hb; clear hb) | ((with_reducible refine (HLo.out _).mono ?_); rintro e w1 ⟨rfl, rfl⟩) | ((with_reducible refine at_load ?_); first | refine sll hM ?_ (hty := row_a32) | refine sll hM ?_ (hty := row_sec)) | ((with_reducible refine at_build ?_); refine lbsec ?_) | ((with_reducible refine at_alloc ?_); refine slz hM ?_ (hz := zero_sec2); clear hM; intro g10 w1 hM) | ((with_reducible refine at_store ?_); refine slw hM ?_ (hs := secC_size _ _) (h1 := secC_one _ _) (hty := row_sec); clear hM; intro wx hM) | ((with_reducible refine (HNO.out _).mono ?_); rintro e w1 ⟨rfl, hb⟩; replace hM := hM.step hb; clear hb))
        go_ret
        exact ⟨rfl, hM.below⟩
      · have r1 : decide (z < 0) = false := decide_eq_false hz1
        have r2 : decide ((M : Int) < z) = true := decide_eq_true (hz.resolve_left hz1)
        clear hz hz1 hT hA hh h1 h3 hx hp hp2 h12 hO
        go_enter Tryd.func6, Tryd.ntmps6
        go_wp2_with (first | ((with_reducible refine at_box ?_); (refine slb hM ?_ (hty := row_a32) (hn := HS.out); clear hM; intro g4 w1 hM)) | ((with_reducible refine (HK.out _ hM.below).mono ?_); rintro e w1 ⟨rfl, hb⟩; replace hM := hM.step hb; clear hb) | ((with_reducible refine (HLo.out _).mono ?_); rintro e w1 ⟨rfl, rfl⟩) | ((with_reducible refine at_load ?_); first | refine sll hM ?_ (hty := row_a32) | refine sll hM ?_ (hty := row_sec)) | ((with_reducible refine at_build ?_); refine lbsec ?_) | ((with_reducible refine at_alloc ?_); refine slz hM ?_ (hz := zero_sec2); clear hM; intro g10 w1 hM) | ((with_reducible refine at_store ?_); refine slw hM ?_ (hs := secC_size _ _) (h1 := secC_one _ _) (hty := row_sec); clear hM; intro wx hM) | ((with_reducible refine (HNO.out _).mono ?_); rintro e w1 ⟨rfl, hb⟩; replace hM := hM.step hb; clear hb))
        go_ret
        exact ⟨rfl, hM.below⟩
    · rw [em] at hz
      obtain ⟨nx, rfl⟩ : ∃ nx : Nat, z = (nx : Int) := ⟨z.toNat, by omega⟩
      have hnx : nx ≤ M := by omega
      have r1 : decide ((nx : Int) < 0) = false := decide_eq_false (by omega)
      have r2 : decide ((M : Int) < (nx : Int)) = false := decide_eq_false (by omega)
      have hlv := lvsN_length s (2 ^ h)
      have HNW := Lib.hid (fun w' (hb : Below w.heap.size w w') => new_yes s h nx w' h1 (by omega) (by omega) (by rw [em]; omega) (hT.keep hb))
      have HPU := Lib.hid (fun L R g A c (k : Nat) w' (hm : Mem [] w (⟨g, 116, 35, sgrC s (h : Nat) A (2 ^ h) c (k : Nat)⟩ :: L) R w') (hr : ndT (.slice A (2 ^ h) c) (lvsN s (2 ^ h)) ∈ R) => gpub_yes s h A (2 ^ h) c (lvsN s (2 ^ h)) (k : Nat) hm hr (by omega) hlv hT)
      have HRR := Lib.hid (fun w => (show Calls _ _ _ _ fun e w' => e = .returned (.agg (ndC (rootN (lvsN s (2 ^ h))))) ∧ Below w.heap.size w w' from rrt_any s h w (by omega)))
      have qf0 := fld_h (h : Nat) (rootN (lvsN s (2 ^ h)))
      have qf1 := fld_r (h : Nat) (rootN (lvsN s (2 ^ h)))
      have qe := eq_16 (rootN (lvsN s (2 ^ h))) (rootN (lvsN s (2 ^ h)))
      rw [decide_eq_true rfl] at qe
      generalize rootN (lvsN s (2 ^ h)) = Z at HPU HRR qf0 qf1 qe
      generalize pubC (h : Nat) Z = PZ at HPU qf0 qf1
      obtain ⟨kl, hkl⟩ : ∃ kl : Nat, kl + 1 = M := ⟨M - 1, by have : 0 < M := (by rw [HM.out]; exact Nat.pow_pos (by decide)); omega⟩
      have hkl2 : kl + 1 = 2 ^ h := by rw [hkl, HM.out]
      have HSY := Lib.hid (fun L R g A c (k : Nat) d w' (hm : Mem [] w (⟨g, 116, 35, sgrC s (h : Nat) A (2 ^ h) c (k : Nat)⟩ :: L) R w') (hr : ndT (.slice A (2 ^ h) c) (lvsN s (2 ^ h)) ∈ R) (hk : k + 1 < 2 ^ h) => gsign_yes s h A (2 ^ h) c (lvsN s (2 ^ h)) k d hm hr h1 (by omega) hlv hk hT)
      have HSU := Lib.hid (fun L R g A c (k : Nat) d w' (hm : Mem [] w (⟨g, 116, 35, sgrC s (h : Nat) A (2 ^ h) c (k : Nat)⟩ :: L) R w') (hk : kl ≤ k) => gsign_used s h A (2 ^ h) c (k : Nat) d hm (by omega) (by omega))
      have HLY := Lib.hid (fun L R g A c (k : Nat) d w' (hm : Mem [] w (⟨g, 116, 35, sgrC s (h : Nat) A (2 ^ h) c (k : Nat)⟩ :: L) R w') (hr : ndT (.slice A (2 ^ h) c) (lvsN s (2 ^ h)) ∈ R) (hk : k ≤ kl) => glast_yes s h A (2 ^ h) c (lvsN s (2 ^ h)) k kl d hm hr h1 (by omega) hlv hkl2 hk hT)
      have HLU := Lib.hid (fun L R g A c (k : Nat) d w' (hm : Mem [] w (⟨g, 116, 35, sgrC s (h : Nat) A (2 ^ h) c (k : Nat)⟩ :: L) R w') (hk : kl < k) => glast_used s h A (2 ^ h) c k kl d hm (by omega) hkl2 hk)
      have HLF := Lib.hid (fun L R g A c (k : Nat) w' (hm : Mem [] w (⟨g, 116, 35, sgrC s (h : Nat) A (2 ^ h) c (k : Nat)⟩ :: L) R w') (hk : k ≤ kl + 1) => gleft_any s h A (2 ^ h) c k kl hm (by omega) hkl2 hk)
      have HSK := Lib.hid (fun L R g A c (k : Nat) z w' (hm : Mem [] w (⟨g, 116, 35, sgrC s (h : Nat) A (2 ^ h) c (k : Nat)⟩ :: L) R w') => gskip_any s h A (2 ^ h) c k kl z hm (by omega) hkl2)
      have HRS := Lib.hid (fun (k : Nat) d w' (hk : k < 2 ^ h) => rsign_any s h k d w' h1 (by omega) hk)
      rw [show (kl : Int) = (M : Int) - 1 by omega] at HLF
      rw [← HM.out] at HNW HPU HSY HSU HLY HLU HLF HSK HRS
      generalize lvsN s M = lv at HNW HPU HSY HLY HRS
      replace hkl := Lib.hid hkl
      have HOO := Lib.hid hO
      have H12 := Lib.hid h12
      have H13 := Lib.hid (And.intro h1 h3)
      replace hlv := Lib.hid hlv
      clear hz hT hA hx hp hp2 hkl2 hO h12 h1 h3 hh
      go_enter Tryd.func6, Tryd.ntmps6
      go_wp2_with (first | ((with_reducible refine at_box ?_); (refine slb hM ?_ (hty := row_a32) (hn := HS.out); clear hM; intro g4 w1 hM)) | ((with_reducible refine (HK.out _ hM.below).mono ?_); rintro e w1 ⟨rfl, hb⟩; replace hM := hM.step hb; clear hb) | ((with_reducible refine (HLo.out _).mono ?_); rintro e w1 ⟨rfl, rfl⟩) | ((with_reducible refine at_load ?_); first | refine sll hM ?_ (hty := row_a32) | refine sll hM ?_ (hty := row_sec)) | ((with_reducible refine at_build ?_); refine lbsec ?_) | ((with_reducible refine at_alloc ?_); refine slz hM ?_ (hz := zero_sec2); clear hM; intro g10 w1 hM) | ((with_reducible refine at_store ?_); refine slw hM ?_ (hs := secC_size _ _) (h1 := secC_one _ _) (hty := row_sec); clear hM; intro wx hM))
      refine (HNW.out _ hM.below).mono ?_
      rintro e w1 ⟨gs, AS, cs, rfl, hF⟩
      replace hM := hM.frame hF
      simp only [List.cons_append, List.nil_append] at hM
      clear hF HNW
      obtain ⟨g10, hg10⟩ := (hM.subL (List.sublist_cons_self _ _)).name1
      obtain ⟨g4, hg4⟩ := (hM.subL (List.Sublist.cons _ (List.sublist_cons_self _ _))).name1
      subst hg10 hg4
      go_upto_region 9 with fail
      refine wp_region_allHM hM (HeldM [⟨g4, 44, 32, cellsOf .u8 s.val⟩]) (by kernel_rfl) ?_
      clear hM
      intro wd hM
      have hS := HeldM.of (hM.subL (L' := [⟨g4, 44, 32, cellsOf .u8 s.val⟩]) (List.Sublist.cons _ (List.Sublist.cons _ (List.Sublist.cons_cons _ (List.nil_sublist _)))))
      refine wpAllH_takes [0, 1, 2, 3, 6] (by kernel_rfl) (fun _ _ _ _ _ h => h) hS (by kernel_rfl) ?_
      simp only [pickOps, List.filterMap_cons, List.filterMap_nil, List.getElem?_cons_zero, List.getElem?_cons_succ]
      repeat ((with_reducible apply wpHeld_stepG); (· rfl); (· (intro w hSw; first | (go_simp; rfl) | (fail))); intro K hK; go_simp; (with_reducible refine hK _ ?_); clear hK K)
      refine wpHeld_nil ?_
      refine wpAllH_one 4 rfl (by kernel_rfl) ?_
      go_wp2_with fail
      refine (HPU.out _ _ _ _ _ _ _ hM (List.Mem.head _)).mono ?_
      clear hM hS
      rintro e w1 ⟨rfl, hM⟩
      have hS := HeldM.of (hM.subL (L' := [⟨g4, 44, 32, cellsOf .u8 s.val⟩]) (List.Sublist.cons _ (List.Sublist.cons _ (List.Sublist.cons_cons _ (List.nil_sublist _)))))
      go_wp2_with fail
      refine then_normal ⟨hS, ?_⟩
      refine wpAllH_takes [5, 7, 8, 9, 10, 13, 14] (by kernel_rfl) (fun _ _ _ _ _ h => h) hS (by kernel_rfl) ?_
      simp only [pickOps, List.filterMap_cons, List.filterMap_nil, List.getElem?_cons_zero, List.getElem?_cons_succ]
      repeat ((with_reducible apply wpHeld_stepG); (· rfl); (· (intro w hSw; first | (go_simp; rfl) | ((obtain ⟨_, _, _, hM'⟩ := hSw; exact yields_load (C := fun _ => True) (sql hM' (hty := row_a32)) rfl)))); intro K hK; go_simp; (with_reducible refine hK _ ?_); clear hK K)
      refine wpHeld_nil ?_
      refine wpAllH_one 11 rfl (by kernel_rfl) ?_
      go_wp2_with fail
      refine (HPU.out _ _ _ _ _ _ _ hM (List.Mem.head _)).mono ?_
      clear hM hS
      rintro e w1 ⟨rfl, hM⟩
      have hS := HeldM.of (hM.subL (L' := [⟨g4, 44, 32, cellsOf .u8 s.val⟩]) (List.Sublist.cons _ (List.Sublist.cons _ (List.Sublist.cons_cons _ (List.nil_sublist _)))))
      go_wp2_with fail
      refine then_normal ⟨hS, ?_⟩
      refine wpAllH_takes [12] (by kernel_rfl) (fun _ _ _ _ _ h => h) hS (by kernel_rfl) ?_
      simp only [pickOps, List.filterMap_cons, List.filterMap_nil, List.getElem?_cons_zero, List.getElem?_cons_succ]
      repeat ((with_reducible apply wpHeld_stepG); (· rfl); (· (intro w hSw; first | (go_simp; rfl) | (fail))); intro K hK; go_simp; (with_reducible refine hK _ ?_); clear hK K)
      refine wpHeld_nil ?_
      refine wpAllH_one 15 rfl (by kernel_rfl) ?_
      go_wp2_with fail
      refine (HRR.out _).mono ?_
      rintro e w1 ⟨rfl, hb⟩
      replace hM := hM.step hb
      clear hb hS
      have hS := HeldM.of (hM.subL (L' := [⟨g4, 44, 32, cellsOf .u8 s.val⟩]) (List.Sublist.cons _ (List.Sublist.cons _ (List.Sublist.cons_cons _ (List.nil_sublist _)))))
      go_wp2_with fail
      refine then_normal ⟨hS, ?_⟩
      refine wpAllH_takes [16, 17] (by kernel_rfl) (fun _ _ _ _ _ h => h) hS (by kernel_rfl) ?_
      simp only [pickOps, List.filterMap_cons, List.filterMap_nil, List.getElem?_cons_zero, List.getElem?_cons_succ]
      repeat ((with_reducible apply wpHeld_stepG); (· rfl); (· (intro w hSw; first | (go_simp; rfl) | (fail))); intro K hK; go_simp; (with_reducible refine hK _ ?_); clear hK K)
      refine wpHeld_nil ?_
      refine wpAllH_done (by kernel_rfl) ?_
      clear hS HPU HRR qf0 qf1 qe
      go_wp2_with fail
      have M0 := Lib.hid hM
      clear hM
      replace hnx := Lib.hid hnx
      go_loopw [2, 14] (fun v i wr => ∃ (k j : Nat) (R : List Thing), k ≤ M ∧ j ≤ n ∧ v = .int .i64 (k : Nat) ∧ i = .int .i64 (j : Nat) ∧ ndT (.slice AS M cs) lv ∈ R ∧ Mem [] w [⟨gs, 116, 35, sgrC s (h : Nat) AS M cs (k : Nat)⟩, ⟨g10, 48, 33, secC s (h : Nat)⟩, ⟨g4, 44, 32, cellsOf .u8 s.val⟩] R wr) (fun _ i _ => n - (intOf i).toNat)
      case atStart => exact ⟨nx, 0, _, hnx.out, by omega, rfl, rfl, List.Mem.head _, M0.out⟩
      case round =>
        clear M0 hnx r1 r2
        obtain ⟨k, j, R, hk, hj, rfl, rfl, hR, hM⟩ := hrel
        have k0 : (0 : Int) ≤ (k : Int) := Int.natCast_nonneg _
        have k9 : (k : Int) ≤ (M : Int) := by omega
        have j0 : (0 : Int) ≤ (j : Int) := Int.natCast_nonneg _
        by_cases hlt : j < n
        · have j1 : (j : Int) < (n : Int) := by omega
          have hjl : j < os.length := by rw [← HOO.out.len]; exact hlt
          obtain ⟨sg, so, rfl, _, _⟩ := HOO.out.at_ (by omega)
          have HCE := Lib.hid (fun w' (hb : Below w.heap.size w w') => (HOO.out.keep hb).cell j hjl)
          generalize os[j] = oj at HCE
          obtain ⟨kd, zn, d, kd9⟩ := oj
          have HKD := Lib.hid (fun w' (hb : Below w.heap.size w w') => HCE.out w' hb 0 _ rfl)
          have HNZ := Lib.hid (fun w' (hb : Below w.heap.size w w') => HCE.out w' hb 1 _ rfl)
          have HDG := Lib.hid (fun w' (hb : Below w.heap.size w w') (jj : Nat) (u : Value) (hu : (ndC d)[jj]? = some u) => (show w'.cell? ⟨sg, so + j * 18 + 2 + jj, none⟩ = some u by rw [Nat.add_assoc]; exact HCE.out w' hb (2 + jj) u (opG_d ⟨kd, zn, d, kd9⟩ hu)))
          simp only [Nat.add_zero] at HKD
          clear HCE hjl
          have kd0 : (0 : Int) ≤ (kd : Int) := Int.natCast_nonneg _
          have kd8 : (kd : Int) < 256 := by omega
          have kd3 : kd % 3 = 0 ∨ kd % 3 = 1 ∨ kd % 3 = 2 := by omega
          replace hR := Lib.hid hR
          rcases kd3 with km | km | km
          · have km1 : (kd : Int) % 3 = 0 := by omega
            clear km
            go_wp2_with (first | ((with_reducible refine (gnext_any gs k _ (((hM.blk (List.Mem.head _)).cell 34).trans (sgrC_n s (h : Nat) AS M cs (k : Nat)))).mono ?_); rintro e w1 ⟨rfl, rfl⟩) | ((with_reducible refine (HLF.out _ _ _ _ _ _ _ hM (by have := hkl.out; omega)).mono ?_); clear hM; rintro e w1 ⟨rfl, hM⟩) | ((with_reducible refine at_alloc ?_); refine slz hM ?_ (hz := zero_sgn); clear hM; intro g15 w1 hM) | ((with_reducible refine at_load ?_); first | refine lo (HKD.out _ hM.below) ?_ (hty := one_u8) | refine lo (HNZ.out _ hM.below) ?_ (hty := one_int) | refine lr (HDG.out _ hM.below) ?_ (hty := row_a16)))
            replace hM := hM.permL (List.Perm.swap _ _ _)
            by_cases hk1 : k + 1 < M
            · refine (HSY.out _ _ _ _ _ _ _ _ hM hR.out hk1).mono ?_
              clear hM
              rintro e w2 ⟨B, c2, rfl, hM⟩
              have y1 : ¬ ((M : Int) - 1 ≤ (k : Int)) := by omega
              have y2 : (k : Int) < (M : Int) - 1 := by omega
              have HRK := Lib.hid (fun w' => HRS.out k d w' (by omega))
              generalize sibsF lv k h = PS at hM HRK
              generalize sgCh s k d = cq at hM HRK
              go_upto_region 41 with (first | ((with_reducible refine at_store ?_); refine slw hM ?_ (hs := sigC_size _ _ _ _ _) (h1 := sigC_one _ _ _ _ _) (hty := row_sgn); clear hM; intro wx hM) | ((with_reducible refine at_load ?_); first | refine lo (HNZ.out _ hM.below) ?_ (hty := one_int) | refine lo (HKD.out _ hM.below) ?_ (hty := one_u8) | refine lr (HDG.out _ hM.below) ?_ (hty := row_a16)))
              obtain ⟨kk, hkk⟩ : ∃ kk : Nat, kk = k := ⟨_, rfl⟩
              rw [← hkk] at hM HRK ⊢
              replace hkk := Lib.hid hkk
              have HYB := Lib.hid (fun w' (hr : NIn w' B h PS) => lback_any (kk : Nat) cq B h c2 PS w' hr (by have := H13.out; omega))
              have HSM := Lib.hid (fun E1 d1 E2 d2 w' (a1 : NIn w' E1 h PS) (a2 : NIn w' E2 h PS) => rsame_any (kk : Nat) (kk : Nat) cq cq E1 E2 h d1 h d2 PS PS w' a1 a2 (by have := H13.out; omega) (by have := H13.out; omega))
              simp only [decide_true, and_self] at HSM
              have HY0 := Lib.hid (sigC_0 (kk : Nat) cq B h c2)
              generalize sigC (kk : Nat) cq B h c2 = Y at hM HYB HY0
              obtain ⟨g15, hg15⟩ := (hM.subL (List.sublist_cons_self _ _)).name1
              subst hg15
              refine wp_region_allHM hM (fun w' => HeldM [⟨g15, 31, 562, Y⟩, ⟨g4, 44, 32, cellsOf .u8 s.val⟩] w' ∧ Below w.heap.size w w') (by kernel_rfl) ?_
              clear hM
              intro wd hM
              have hS := And.intro (HeldM.of (hM.subL (L' := [⟨g15, 31, 562, Y⟩, ⟨g4, 44, 32, cellsOf .u8 s.val⟩]) (List.Sublist.cons _ (List.Sublist.cons_cons _ (List.Sublist.cons _ (List.Sublist.cons_cons _ (List.nil_sublist _))))))) hM.below
              refine wpAllH_takes [0, 1, 2, 3, 4, 5, 6, 7, 8, 10, 11, 12, 13, 14, 15, 16, 17] (by kernel_rfl) (fun _ _ _ _ _ h => h) hS (by kernel_rfl) ?_
              simp only [pickOps, List.filterMap_cons, List.filterMap_nil, List.getElem?_cons_zero, List.getElem?_cons_succ]
              repeat ((with_reducible apply wpHeld_stepG); (· rfl); (· (intro w hSw; first | (go_simp; rfl) | ((obtain ⟨⟨_, _, _, hM'⟩, hb'⟩ := hSw; first | exact yields_load (C := fun _ => True) (sqc hM' (hv := HY0.out)) rfl | exact yields_load (C := fun _ => True) (sql hM' (hty := row_sgn)) rfl | exact yields_load (C := fun _ => True) (sql hM' (hty := row_a32)) rfl | exact yields_load (C := fun _ => True) (qr (HDG.out _ hb') (hty := row_a16)) rfl)))); intro K hK; go_simp; (with_reducible refine hK _ ?_); clear hK K)
              refine wpHeld_nil ?_
              refine wpAllH_one 9 rfl (by kernel_rfl) ?_
              go_wp2_with fail
              refine (HYB.out _ (p16T_in (hM.thing _ (List.Mem.head _)))).mono ?_
              rintro e w5 ⟨B5, c5, rfl, hb⟩
              replace hM := hM.newThing hb
              clear hb hS
              have hS := And.intro (HeldM.of (hM.subL (L' := [⟨g15, 31, 562, Y⟩, ⟨g4, 44, 32, cellsOf .u8 s.val⟩]) (List.Sublist.cons _ (List.Sublist.cons_cons _ (List.Sublist.cons _ (List.Sublist.cons_cons _ (List.nil_sublist _))))))) hM.below
              go_wp2_with fail
              refine then_normal ⟨hS, ?_⟩
              refine wpAllH_one 18 rfl (by kernel_rfl) ?_
              go_wp2_with fail
              refine (HRK.out _).mono ?_
              rintro e w6 ⟨B6, c6, rfl, hb⟩
              replace hM := hM.newThing hb
              clear hb hS
              have hS := And.intro (HeldM.of (hM.subL (L' := [⟨g15, 31, 562, Y⟩, ⟨g4, 44, 32, cellsOf .u8 s.val⟩]) (List.Sublist.cons _ (List.Sublist.cons_cons _ (List.Sublist.cons _ (List.Sublist.cons_cons _ (List.nil_sublist _))))))) hM.below
              go_wp2_with fail
              refine then_normal ⟨hS, ?_⟩
              refine wpAllH_one 19 rfl (by kernel_rfl) ?_
              go_wp2_with fail
              refine (HSM.out _ _ _ _ _ (p16T_in (hM.thing _ (List.Mem.tail _ (List.Mem.head _)))) (p16T_in (hM.thing _ (List.Mem.head _)))).mono ?_
              rintro e w7 ⟨rfl, hb⟩
              replace hM := hM.step hb
              clear hb hS
              have hS := And.intro (HeldM.of (hM.subL (L' := [⟨g15, 31, 562, Y⟩, ⟨g4, 44, 32, cellsOf .u8 s.val⟩]) (List.Sublist.cons _ (List.Sublist.cons_cons _ (List.Sublist.cons _ (List.Sublist.cons_cons _ (List.nil_sublist _))))))) hM.below
              go_wp2_with fail
              refine then_normal ⟨hS, ?_⟩
              refine wpAllH_takes [20, 21, 22, 23, 24, 25, 26, 27, 28, 29, 30, 31, 32, 33] (by kernel_rfl) (fun _ _ _ _ _ h => h) hS (by kernel_rfl) ?_
              simp only [pickOps, List.filterMap_cons, List.filterMap_nil, List.getElem?_cons_zero, List.getElem?_cons_succ]
              repeat (first | ((with_reducible apply wpHeld_stepG); (· rfl); (· (intro w hSw; first | (go_simp; rfl) | (fail))); intro K hK; go_simp; (with_reducible refine hK _ ?_); clear hK K) | ((with_reducible apply wpHeld_stepU); (· rfl); intro K hK; go_simp; (with_reducible refine hK _ ?_); clear hK K))
              refine wpHeld_nil ?_
              refine wpAllH_done (by kernel_rfl) ?_
              go_wp2_with fail
              have hk2 := hkk.out
              subst hk2
              exact ⟨⟨kk + 1, j + 1, _, by omega, by omega, by go_num, by go_num, List.Mem.tail _ (List.Mem.tail _ (List.Mem.tail _ hR.out)), by rw [show ((kk + 1 : Nat) : Int) = (kk : Int) + 1 by omega]; exact hM.subL (List.Sublist.cons_cons _ (List.sublist_cons_self _ _))⟩, by simp [intOf]; omega⟩
            · refine (HSU.out _ _ _ _ _ _ _ _ hM (by have := hkl.out; omega)).mono ?_
              clear hM
              rintro e w2 ⟨rfl, hM⟩
              have y1 : (M : Int) - 1 ≤ (k : Int) := by omega
              have y2 : ¬ ((k : Int) < (M : Int) - 1) := by omega
              go_upto_region 41 with (first | ((with_reducible refine at_store ?_); refine slw hM ?_ (hs := sigC_size _ _ _ _ _) (h1 := sigC_one _ _ _ _ _) (hty := row_sgn); clear hM; intro wx hM) | ((with_reducible refine at_load ?_); first | refine lo (HNZ.out _ hM.below) ?_ (hty := one_int) | refine lo (HKD.out _ hM.below) ?_ (hty := one_u8) | refine lr (HDG.out _ hM.below) ?_ (hty := row_a16)))
              obtain ⟨g15, hg15⟩ := (hM.subL (List.sublist_cons_self _ _)).name1
              subst hg15
              have HYB := Lib.hid (fun w' => lback_any 0 ch0 none 0 0 [] w' (nin_nil9 w') (by omega))
              have HSM := Lib.hid (fun B c' w' (hr : NIn w' B 0 []) => rsame_any 0 0 ch0 ch0 B none 0 c' 0 0 [] [] w' hr (nin_nil9 w') (by omega) (by omega))
              simp only [decide_true, and_self] at HSM
              refine wp_region_allHM hM (HeldM [⟨g15, 31, 562, sigC 0 ch0 none 0 0⟩]) (by kernel_rfl) ?_
              clear hM
              intro wd hM
              have hS := HeldM.of (hM.subL (L' := [⟨g15, 31, 562, sigC 0 ch0 none 0 0⟩]) (List.Sublist.cons _ (List.Sublist.cons_cons _ (List.nil_sublist _))))
              refine wpAllH_takes [0, 1, 2, 3, 4, 5, 6, 7, 8, 10, 11, 12, 13, 14, 15, 16, 17, 9, 18, 19, 20, 21, 22, 23, 24, 25, 26, 27, 29] (by kernel_rfl) (fun _ _ _ _ _ h => h) hS (by kernel_rfl) ?_
              simp only [pickOps, List.filterMap_cons, List.filterMap_nil, List.getElem?_cons_zero, List.getElem?_cons_succ]
              repeat (first | ((with_reducible apply wpHeld_stepG); (· rfl); (· (intro w hSw; first | (go_simp; rfl) | ((obtain ⟨_, _, _, hM'⟩ := hSw; exact yields_load (C := fun _ => True) (sql hM' (hty := row_sgn)) rfl)))); intro K hK; go_simp; (with_reducible refine hK _ ?_); clear hK K) | ((with_reducible apply wpHeld_stepU); (· rfl); intro K hK; go_simp; (with_reducible refine hK _ ?_); clear hK K))
              refine wpHeld_nil ?_
              refine wpAllH_one 28 rfl (by kernel_rfl) ?_
              go_wp2_with fail
              refine (HYB.out _).mono ?_
              rintro e w5 ⟨B5, c5, rfl, hb⟩
              replace hM := hM.newThing hb
              clear hb hS
              have hS := HeldM.of (hM.subL (L' := [⟨g15, 31, 562, sigC 0 ch0 none 0 0⟩]) (List.Sublist.cons _ (List.Sublist.cons_cons _ (List.nil_sublist _))))
              go_wp2_with fail
              refine then_normal ⟨hS, ?_⟩
              refine wpAllH_one 30 rfl (by kernel_rfl) ?_
              go_wp2_with fail
              refine (HSM.out _ _ _ (p16T_in (hM.thing _ (List.Mem.head _)))).mono ?_
              rintro e w7 ⟨rfl, hb⟩
              replace hM := hM.step hb
              clear hb hS
              have hS := HeldM.of (hM.subL (L' := [⟨g15, 31, 562, sigC 0 ch0 none 0 0⟩]) (List.Sublist.cons _ (List.Sublist.cons_cons _ (List.nil_sublist _))))
              go_wp2_with fail
              refine then_normal ⟨hS, ?_⟩
              refine wpAllH_takes [31, 32, 33] (by kernel_rfl) (fun _ _ _ _ _ h => h) hS (by kernel_rfl) ?_
              simp only [pickOps, List.filterMap_cons, List.filterMap_nil, List.getElem?_cons_zero, List.getElem?_cons_succ]
              repeat ((with_reducible apply wpHeld_stepG); (· rfl); (· (intro w hSw; first | (go_simp; rfl) | (fail))); intro K hK; go_simp; (with_reducible refine hK _ ?_); clear hK K)
              refine wpHeld_nil ?_
              refine wpAllH_done (by kernel_rfl) ?_
              go_wp2_with fail
              exact ⟨⟨k, j + 1, _, by omega, by omega, by go_num, by go_num, List.Mem.tail _ hR.out, hM.subL (List.Sublist.cons_cons _ (List.sublist_cons_self _ _))⟩, by simp [intOf]; omega⟩
          · have km1 : (kd : Int) % 3 = 1 := by omega
            clear km
            go_wp2_with (first | ((with_reducible refine (gnext_any gs k _ (((hM.blk (List.Mem.head _)).cell 34).trans (sgrC_n s (h : Nat) AS M cs (k : Nat)))).mono ?_); rintro e w1 ⟨rfl, rfl⟩) | ((with_reducible refine (HLF.out _ _ _ _ _ _ _ hM (by have := hkl.out; omega)).mono ?_); clear hM; rintro e w1 ⟨rfl, hM⟩) | ((with_reducible refine at_alloc ?_); refine slz hM ?_ (hz := zero_sgn); clear hM; intro g15 w1 hM) | ((with_reducible refine at_load ?_); first | refine lo (HKD.out _ hM.below) ?_ (hty := one_u8) | refine lo (HNZ.out _ hM.below) ?_ (hty := one_int) | refine lr (HDG.out _ hM.below) ?_ (hty := row_a16)))
            replace hM := hM.permL (List.Perm.swap _ _ _)
            by_cases hk1 : k < M
            · refine (HLY.out _ _ _ _ _ _ _ _ hM hR.out (by have := hkl.out; omega)).mono ?_
              clear hM
              rintro e w2 ⟨B, c2, rfl, hM⟩
              have y1 : ((k : Int) == (M : Int)) = false := beq_false_of_ne (by omega)
              have y2 : ¬ ((k : Int) = (M : Int)) := by omega
              have ekl : (M : Int) - 1 = (kl : Int) := by have := hkl.out; omega
              have HRK := Lib.hid (fun w' => HRS.out kl d w' (by have := hkl.out; omega))
              generalize sibsF lv kl h = PS at hM HRK
              generalize sgCh s kl d = cq at hM HRK
              go_upto_region 41 with (first | ((with_reducible refine at_store ?_); refine slw hM ?_ (hs := sigC_size _ _ _ _ _) (h1 := sigC_one _ _ _ _ _) (hty := row_sgn); clear hM; intro wx hM) | ((with_reducible refine at_load ?_); first | refine lo (HNZ.out _ hM.below) ?_ (hty := one_int) | refine lo (HKD.out _ hM.below) ?_ (hty := one_u8) | refine lr (HDG.out _ hM.below) ?_ (hty := row_a16)))
              obtain ⟨kk, hkk⟩ : ∃ kk : Nat, kk = kl := ⟨_, rfl⟩
              rw [← hkk] at hM HRK ⊢
              replace hkk := Lib.hid hkk
              have HYB := Lib.hid (fun w' (hr : NIn w' B h PS) => lback_any (kk : Nat) cq B h c2 PS w' hr (by have := H13.out; omega))
              have HSM := Lib.hid (fun E1 d1 E2 d2 w' (a1 : NIn w' E1 h PS) (a2 : NIn w' E2 h PS) => rsame_any (kk : Nat) (kk : Nat) cq cq E1 E2 h d1 h d2 PS PS w' a1 a2 (by have := H13.out; omega) (by have := H13.out; omega))
              simp only [decide_true, and_self] at HSM
              have HY0 := Lib.hid (sigC_0 (kk : Nat) cq B h c2)
              generalize sigC (kk : Nat) cq B h c2 = Y at hM HYB HY0
              obtain ⟨g15, hg15⟩ := (hM.subL (List.sublist_cons_self _ _)).name1
              subst hg15
              refine wp_region_allHM hM (fun w' => HeldM [⟨g15, 31, 562, Y⟩, ⟨g4, 44, 32, cellsOf .u8 s.val⟩] w' ∧ Below w.heap.size w w') (by kernel_rfl) ?_
              clear hM
              intro wd hM
              have hS := And.intro (HeldM.of (hM.subL (L' := [⟨g15, 31, 562, Y⟩, ⟨g4, 44, 32, cellsOf .u8 s.val⟩]) (List.Sublist.cons _ (List.Sublist.cons_cons _ (List.Sublist.cons _ (List.Sublist.cons_cons _ (List.nil_sublist _))))))) hM.below
              refine wpAllH_takes [0, 1, 2, 3, 4, 5, 6, 7, 8, 10, 11, 12, 13, 14, 15, 16, 17] (by kernel_rfl) (fun _ _ _ _ _ h => h) hS (by kernel_rfl) ?_
              simp only [pickOps, List.filterMap_cons, List.filterMap_nil, List.getElem?_cons_zero, List.getElem?_cons_succ]
              repeat ((with_reducible apply wpHeld_stepG); (· rfl); (· (intro w hSw; first | (go_simp; rfl) | ((obtain ⟨⟨_, _, _, hM'⟩, hb'⟩ := hSw; first | exact yields_load (C := fun _ => True) (sqc hM' (hv := HY0.out)) rfl | exact yields_load (C := fun _ => True) (sql hM' (hty := row_sgn)) rfl | exact yields_load (C := fun _ => True) (sql hM' (hty := row_a32)) rfl | exact yields_load (C := fun _ => True) (qr (HDG.out _ hb') (hty := row_a16)) rfl)))); intro K hK; go_simp; (with_reducible refine hK _ ?_); clear hK K)
              refine wpHeld_nil ?_
              refine wpAllH_one 9 rfl (by kernel_rfl) ?_
              go_wp2_with fail
              refine (HYB.out _ (p16T_in (hM.thing _ (List.Mem.head _)))).mono ?_
              rintro e w5 ⟨B5, c5, rfl, hb⟩
              replace hM := hM.newThing hb
              clear hb hS
              have hS := And.intro (HeldM.of (hM.subL (L' := [⟨g15, 31, 562, Y⟩, ⟨g4, 44, 32, cellsOf .u8 s.val⟩]) (List.Sublist.cons _ (List.Sublist.cons_cons _ (List.Sublist.cons _ (List.Sublist.cons_cons _ (List.nil_sublist _))))))) hM.below
              go_wp2_with fail
              refine then_normal ⟨hS, ?_⟩
              refine wpAllH_one 18 rfl (by kernel_rfl) ?_
              go_wp2_with fail
              refine (HRK.out _).mono ?_
              rintro e w6 ⟨B6, c6, rfl, hb⟩
              replace hM := hM.newThing hb
              clear hb hS
              have hS := And.intro (HeldM.of (hM.subL (L' := [⟨g15, 31, 562, Y⟩, ⟨g4, 44, 32, cellsOf .u8 s.val⟩]) (List.Sublist.cons _ (List.Sublist.cons_cons _ (List.Sublist.cons _ (List.Sublist.cons_cons _ (List.nil_sublist _))))))) hM.below
              go_wp2_with fail
              refine then_normal ⟨hS, ?_⟩
              refine wpAllH_one 19 rfl (by kernel_rfl) ?_
              go_wp2_with fail
              refine (HSM.out _ _ _ _ _ (p16T_in (hM.thing _ (List.Mem.tail _ (List.Mem.head _)))) (p16T_in (hM.thing _ (List.Mem.head _)))).mono ?_
              rintro e w7 ⟨rfl, hb⟩
              replace hM := hM.step hb
              clear hb hS
              have hS := And.intro (HeldM.of (hM.subL (L' := [⟨g15, 31, 562, Y⟩, ⟨g4, 44, 32, cellsOf .u8 s.val⟩]) (List.Sublist.cons _ (List.Sublist.cons_cons _ (List.Sublist.cons _ (List.Sublist.cons_cons _ (List.nil_sublist _))))))) hM.below
              go_wp2_with fail
              refine then_normal ⟨hS, ?_⟩
              refine wpAllH_takes [20, 21, 22, 23, 24, 25, 26, 27, 28, 29, 30, 31, 32, 33] (by kernel_rfl) (fun _ _ _ _ _ h => h) hS (by kernel_rfl) ?_
              simp only [pickOps, List.filterMap_cons, List.filterMap_nil, List.getElem?_cons_zero, List.getElem?_cons_succ]
              repeat (first | ((with_reducible apply wpHeld_stepG); (· rfl); (· (intro w hSw; first | (go_simp; rfl) | (fail))); intro K hK; go_simp; (with_reducible refine hK _ ?_); clear hK K) | ((with_reducible apply wpHeld_stepU); (· rfl); intro K hK; go_simp; (with_reducible refine hK _ ?_); clear hK K))
              refine wpHeld_nil ?_
              refine wpAllH_done (by kernel_rfl) ?_
              go_wp2_with fail
              have hk2 := hkk.out
              subst hk2
              exact ⟨⟨M, j + 1, _, by omega, by omega, by go_num, by go_num, List.Mem.tail _ (List.Mem.tail _ (List.Mem.tail _ hR.out)), by rw [show ((M : Nat) : Int) = (kk : Int) + 1 by have := hkl.out; omega]; exact hM.subL (List.Sublist.cons_cons _ (List.sublist_cons_self _ _))⟩, by simp [intOf]; omega⟩
            · refine (HLU.out _ _ _ _ _ _ _ _ hM (by have := hkl.out; omega)).mono ?_
              clear hM
              rintro e w2 ⟨rfl, hM⟩
              have y1 : ((k : Int) == (M : Int)) = true := by simp; omega
              have y2 : ((k : Int) = (M : Int)) := by omega
              go_upto_region 41 with (first | ((with_reducible refine at_store ?_); refine slw hM ?_ (hs := sigC_size _ _ _ _ _) (h1 := sigC_one _ _ _ _ _) (hty := row_sgn); clear hM; intro wx hM) | ((with_reducible refine at_load ?_); first | refine lo (HNZ.out _ hM.below) ?_ (hty := one_int) | refine lo (HKD.out _ hM.below) ?_ (hty := one_u8) | refine lr (HDG.out _ hM.below) ?_ (hty := row_a16)))
              obtain ⟨g15, hg15⟩ := (hM.subL (List.sublist_cons_self _ _)).name1
              subst hg15
              have HYB := Lib.hid (fun w' => lback_any 0 ch0 none 0 0 [] w' (nin_nil9 w') (by omega))
              have HSM := Lib.hid (fun B c' w' (hr : NIn w' B 0 []) => rsame_any 0 0 ch0 ch0 B none 0 c' 0 0 [] [] w' hr (nin_nil9 w') (by omega) (by omega))
              simp only [decide_true, and_self] at HSM
              refine wp_region_allHM hM (HeldM [⟨g15, 31, 562, sigC 0 ch0 none 0 0⟩]) (by kernel_rfl) ?_
              clear hM
              intro wd hM
              have hS := HeldM.of (hM.subL (L' := [⟨g15, 31, 562, sigC 0 ch0 none 0 0⟩]) (List.Sublist.cons _ (List.Sublist.cons_cons _ (List.nil_sublist _))))
              refine wpAllH_takes [0, 1, 2, 3, 4, 5, 6, 7, 8, 10, 11, 12, 13, 14, 15, 16, 17, 9, 18, 19, 20, 21, 22, 23, 24, 25, 26, 27, 29] (by kernel_rfl) (fun _ _ _ _ _ h => h) hS (by kernel_rfl) ?_
              simp only [pickOps, List.filterMap_cons, List.filterMap_nil, List.getElem?_cons_zero, List.getElem?_cons_succ]
              repeat (first | ((with_reducible apply wpHeld_stepG); (· rfl); (· (intro w hSw; first | (go_simp; rfl) | ((obtain ⟨_, _, _, hM'⟩ := hSw; exact yields_load (C := fun _ => True) (sql hM' (hty := row_sgn)) rfl)))); intro K hK; go_simp; (with_reducible refine hK _ ?_); clear hK K) | ((with_reducible apply wpHeld_stepU); (· rfl); intro K hK; go_simp; (with_reducible refine hK _ ?_); clear hK K))
              refine wpHeld_nil ?_
              refine wpAllH_one 28 rfl (by kernel_rfl) ?_
              go_wp2_with fail
              refine (HYB.out _).mono ?_
              rintro e w5 ⟨B5, c5, rfl, hb⟩
              replace hM := hM.newThing hb
              clear hb hS
              have hS := HeldM.of (hM.subL (L' := [⟨g15, 31, 562, sigC 0 ch0 none 0 0⟩]) (List.Sublist.cons _ (List.Sublist.cons_cons _ (List.nil_sublist _))))
              go_wp2_with fail
              refine then_normal ⟨hS, ?_⟩
              refine wpAllH_one 30 rfl (by kernel_rfl) ?_
              go_wp2_with fail
              refine (HSM.out _ _ _ (p16T_in (hM.thing _ (List.Mem.head _)))).mono ?_
              rintro e w7 ⟨rfl, hb⟩
              replace hM := hM.step hb
              clear hb hS
              have hS := HeldM.of (hM.subL (L' := [⟨g15, 31, 562, sigC 0 ch0 none 0 0⟩]) (List.Sublist.cons _ (List.Sublist.cons_cons _ (List.nil_sublist _))))
              go_wp2_with fail
              refine then_normal ⟨hS, ?_⟩
              refine wpAllH_takes [31, 32, 33] (by kernel_rfl) (fun _ _ _ _ _ h => h) hS (by kernel_rfl) ?_
              simp only [pickOps, List.filterMap_cons, List.filterMap_nil, List.getElem?_cons_zero, List.getElem?_cons_succ]
              repeat ((with_reducible apply wpHeld_stepG); (· rfl); (· (intro w hSw; first | (go_simp; rfl) | (fail))); intro K hK; go_simp; (with_reducible refine hK _ ?_); clear hK K)
              refine wpHeld_nil ?_
              refine wpAllH_done (by kernel_rfl) ?_
              go_wp2_with fail
              exact ⟨⟨k, j + 1, _, by omega, by omega, by go_num, by go_num, List.Mem.tail _ hR.out, hM.subL (List.Sublist.cons_cons _ (List.sublist_cons_self _ _))⟩, by simp [intOf]; omega⟩
          · have km1 : (kd : Int) % 3 = 2 := by omega
            clear km
            go_wp2_with (first | ((with_reducible refine (gnext_any gs k _ (((hM.blk (List.Mem.head _)).cell 34).trans (sgrC_n s (h : Nat) AS M cs (k : Nat)))).mono ?_); rintro e w1 ⟨rfl, rfl⟩) | ((with_reducible refine (HLF.out _ _ _ _ _ _ _ hM (by have := hkl.out; omega)).mono ?_); clear hM; rintro e w1 ⟨rfl, hM⟩) | ((with_reducible refine at_alloc ?_); refine slz hM ?_ (hz := zero_sgn); clear hM; intro g15 w1 hM) | ((with_reducible refine at_load ?_); first | refine lo (HKD.out _ hM.below) ?_ (hty := one_u8) | refine lo (HNZ.out _ hM.below) ?_ (hty := one_int) | refine lr (HDG.out _ hM.below) ?_ (hty := row_a16)))
            replace hM := hM.permL (List.Perm.swap _ _ _)
            refine (HSK.out _ _ _ _ _ _ _ _ hM).mono ?_
            clear hM
            rintro e w2 (⟨⟨hc1, rfl⟩ | ⟨hc1, rfl⟩, hM⟩ | ⟨⟨hc1, hc2, rfl⟩, hM⟩)
            · have y1 : decide ((M : Int) < zn) = true := decide_eq_true (by have := hkl.out; omega)
              have y2 : (M : Int) < zn := by have := hkl.out; omega
              clear hc1
              go_wp2_with (first | ((with_reducible refine at_load ?_); first | refine lo (HNZ.out _ hM.below) ?_ (hty := one_int)))
              exact ⟨⟨k, j + 1, _, by omega, by omega, by go_num, by go_num, hR.out, hM.subL (List.Sublist.cons_cons _ (List.sublist_cons_self _ _))⟩, by simp [intOf]; omega⟩
            · have y1 : ¬ ((M : Int) < zn) := by have := hkl.out; omega
              have y2 : zn < (k : Int) := hc1.2
              clear hc1
              go_wp2_with (first | ((with_reducible refine at_load ?_); first | refine lo (HNZ.out _ hM.below) ?_ (hty := one_int)))
              exact ⟨⟨k, j + 1, _, by omega, by omega, by go_num, by go_num, hR.out, hM.subL (List.Sublist.cons_cons _ (List.sublist_cons_self _ _))⟩, by simp [intOf]; omega⟩
            · obtain ⟨kn, rfl⟩ : ∃ kn : Nat, zn = (kn : Int) := ⟨zn.toNat, by omega⟩
              have y1 : ¬ ((M : Int) < (kn : Int)) := by have := hkl.out; omega
              have y2 : ¬ ((kn : Int) < (k : Int)) := by omega
              have y3 : ¬ (M < kn) := by have := hkl.out; omega
              have y4 : ¬ (kn < k) := by omega
              have hkn := Lib.hid (show kn ≤ M by omega)
              clear hc1 hc2
              go_wp2_with (first | ((with_reducible refine at_load ?_); first | refine lo (HNZ.out _ hM.below) ?_ (hty := one_int)))
              exact ⟨⟨kn, j + 1, _, hkn.out, by omega, by go_num, by go_num, hR.out, hM.subL (List.Sublist.cons_cons _ (List.sublist_cons_self _ _))⟩, by simp [intOf]; omega⟩
        · have hjn : j = n := by omega
          subst hjn
          go_wp2_with (first | ((with_reducible refine (gnext_any gs k _ (((hM.blk (List.Mem.head _)).cell 34).trans (sgrC_n s (h : Nat) AS M cs (k : Nat)))).mono ?_); rintro e w1 ⟨rfl, rfl⟩))
          go_ret
          exact ⟨rfl, hM.below⟩
  · have q12 : 12 < n := by omega
    have r12 : (12 : Int) < (n : Int) := by omega
    clear hT hA h12 hO hx
    go_enter Tryd.func6, Tryd.ntmps6
    go_wp2_with (first | ((with_reducible refine at_box ?_); (refine slb hM ?_ (hty := row_a32) (hn := HS.out); clear hM; intro g4 w1 hM)) | ((with_reducible refine (HK.out _ hM.below).mono ?_); rintro e w1 ⟨rfl, hb⟩; replace hM := hM.step hb; clear hb))
    go_ret
    exact ⟨rfl, hM.below⟩
end Go.Proofs.YtdnnjgjaffkdfaaDoor
namespace Go.Proofs.YtdnnjgjaffkdfaaDoor
open Go Go.RowKit Go.WideShapes Go.ChangeShapes Go.ChangeAt Go.Bul Go.Thg Go.Lin
section
variable {H : Type} {enc : TypeId × Value → H} {P : Program}
/-- A slice that came in: what each of its elements reads as. -/
theorem sl_arg {W : World} {k fuel : Nat} {t e : TypeId} {cs : List Value} {x : DataW H × List MemPlace} (ht : P.underlying t = some (.slice e)) (hk : P.cellsOf e = k) (hk0 : 0 < k)
    (hf : DataW.trod enc P W 0 (fun _ => true) true fuel t cs = some x) : ∃ A n c, cs = [.slice A n c] ∧ n ≤ c ∧ c ≤ 9223372036854775807 ∧ ∃ E : Nat → List Value, (∀ i, i < n → (E i).length = k ∧ ∃ m y, DataW.trod enc P W 0 (fun _ => true) true m e (E i) = some y) ∧
      (0 < n → ∃ g off, A = some ⟨g, off, Option.none⟩ ∧ g < W.heap.size ∧ ∀ i j u, i < n → (E i)[j]? = some u → W.cell? ⟨g, off + (i * k + j), Option.none⟩ = some u) := by
  rcases Go.Deep.open_slice ht hf with ⟨hcs, _⟩ | ⟨a, len, cap, m, fu, D, Pl, hcs, _, hl, hm, hmm, _, hx⟩
  · exact ⟨Option.none, 0, 0, hcs, Nat.le_refl _, by omega, fun _ => [], fun i hi => by omega, fun h => by omega⟩
  · simp only [if_true] at hmm
    rw [hk] at hx
    obtain ⟨E, hE⟩ := Go.Deep.choose_lt (α := List Value) (p := fun i cs' => W.cells? 0 (a.add (i * k)) k = some cs' ∧ DataW.trod enc P W 0 (fun _ => true) true fu e cs' = some (D i, Pl i)) (fun i hi => hx i hi)
    refine ⟨some a, len, cap, hcs, hl, by unfold maxLen at hm; omega, E, fun i hi => ?_, fun h0 => ?_⟩
    · obtain ⟨h1, h2⟩ := hE i (by omega)
      obtain ⟨_, h3, _⟩ := World.cells?_some h1
      exact ⟨h3, _, _, h2⟩
    · obtain ⟨h1, h2⟩ := hE 0 (by omega)
      obtain ⟨_, h3, h4⟩ := World.cells?_some h1
      have h5 := h4 0 hk0
      rw [Go.Deep.add_add, Nat.zero_mul, Nat.zero_add] at h5
      rw [List.getElem?_eq_getElem (by omega)] at h5
      have hlt := lt_of_cell h5
      obtain ⟨g, off, sp⟩ := a
      have e0 : (⟨g, off, sp⟩ : Addr).add 0 = ⟨g, off, sp⟩ := by simp [Addr.add]
      rw [e0] at h5 hlt
      have hsp : sp = Option.none := by
        cases sp with
        | none => rfl
        | some s =>
          unfold World.cell? at h5
          split at h5
          · simp at h5
          · cases h5
      subst hsp
      refine ⟨g, off, rfl, hlt, fun i j u hi hu => ?_⟩
      obtain ⟨h1, h2⟩ := hE i (by omega)
      obtain ⟨_, h3, h4⟩ := World.cells?_some h1
      have hj : j < k := by rw [← h3]; exact (List.getElem?_eq_some_iff.1 hu).1
      have h6 := h4 j hj
      rw [Go.Deep.add_add, hu, addr_at] at h6
      exact h6
end
set_option maxRecDepth 100000
section
variable {H : Type} {enc : TypeId × Value → H}
instance : Inhabited OpG := ⟨⟨0, 0, nd0, by decide⟩⟩
theorem opg_cells {W : World} {m : Nat} {cs : List Value} {y : DataW H × List MemPlace} (h : DataW.trod enc Tryd.prog W 0 (fun _ => true) true m 67 cs = some y) : ∃ o : OpG, cs = opG o := by
  obtain ⟨xs, n, _, _, hl, hlen, hfs⟩ := DataW.trod_struct Tryd.underlying67 h
  obtain ⟨y0, y1, y2, rfl⟩ : ∃ y0 y1 y2, xs = [y0, y1, y2] := by
    match xs, hlen with
    | [y0, y1, y2], _ => exact ⟨y0, y1, y2, rfl⟩
  have h0 := hfs 0 _ rfl
  have h1 := hfs 1 _ rfl
  have h2 := hfs 2 _ rfl
  obtain ⟨k, hk, _, wk⟩ := DataW.trod_int Tryd.underlying5 h0
  obtain ⟨s, hs, _, _⟩ := DataW.trod_int Tryd.underlying3 h1
  obtain ⟨zs, hz, hzl, hw⟩ := arr_ints Tryd.underlying22 Tryd.underlying5 cells_u8 (by kernel_rfl) h2
  have c0 : Tryd.prog.cellsOf 5 = 1 := by kernel_rfl
  have c1 : Tryd.prog.cellsOf 3 = 1 := by kernel_rfl
  have c2 : Tryd.prog.cellsOf 22 = 16 := by kernel_rfl
  have c4 : Tryd.prog.cellsOf 67 = 18 := by kernel_rfl
  clear h0 h1 h2 hfs h
  have hk : (cs.drop 0).take (Tryd.prog.cellsOf 5) = [.int .u8 k] := hk
  have hs : (cs.drop 1).take (Tryd.prog.cellsOf 3) = [.int .i64 s] := hs
  have hz : (cs.drop 2).take (Tryd.prog.cellsOf 22) = zs.map (Value.int .u8) := hz
  rw [c0] at hk
  rw [c1] at hs
  rw [c2] at hz
  rw [c4] at hl
  have w0 := wf_byte wk
  refine ⟨⟨k.toNat, s, ⟨zs.map Int.toNat, by rw [List.length_map]; exact hzl, fun x hx => ?_⟩, by omega⟩, ?_⟩
  · obtain ⟨z, hz1, rfl⟩ := List.mem_map.1 hx
    have := wf_byte (hw z hz1)
    omega
  · have e1 : cs = (cs.drop 0).take 1 ++ ((cs.drop 1).take 1 ++ (cs.drop 2).take 16) := by
      rw [List.take_of_length_le (l := cs.drop 2) (by rw [List.length_drop, hl]; decide)]
      match cs, hl with
      | a :: b :: r, _ => rfl
    rw [e1, hk, hs, hz]
    have e2 : vals .u8 (zs.map Int.toNat) = zs.map (Value.int .u8) := by
      unfold vals
      rw [List.map_map]
      refine List.map_congr_left fun z hz1 => ?_
      have := wf_byte (hw z hz1)
      show Value.int .u8 ((z.toNat : Nat) : Int) = _
      rw [Int.toNat_of_nonneg this.1]
    show [Value.int .u8 k] ++ ([Value.int .i64 s] ++ zs.map (Value.int .u8)) = .int .u8 ((k.toNat : Nat) : Int) :: .int .i64 s :: vals .u8 (zs.map Int.toNat)
    rw [e2, Int.toNat_of_nonneg w0.1]
    rfl
/-- Operations that came in. -/
theorem opsg_arg {W : World} {base : Nat} {v : Value} {d : DataW H} {p : List MemPlace} (hok : Value.okWide Tryd.prog W .any base 60 v) (h : DataW.Trod enc Tryd.prog W 0 (fun _ => true) true 60 v d p) :
    ∃ A n c os, v = .slice A n c ∧ OpsG W A n os := by
  obtain ⟨a0, len, cap, rfl⟩ := okWide_slice Tryd.underlying60 hok
  obtain ⟨fuel, hf⟩ := h
  obtain ⟨A, n, c, hs, hnc, _, E, hE, hA⟩ := sl_arg Tryd.underlying60 (show Tryd.prog.cellsOf 67 = 18 by kernel_rfl) (by decide) hf
  have hs' : Value.slice a0 len cap = .slice A n c := by
    have : [Value.slice a0 len cap] = [.slice A n c] := hs
    simpa using this
  obtain ⟨F, hF⟩ := Go.Deep.choose_lt (α := OpG) (p := fun i o => E i = opG o) (n := n) (fun i hi => by
    obtain ⟨_, m, y, hy⟩ := hE i hi
    exact opg_cells hy)
  refine ⟨A, n, c, (List.range n).map F, hs', by simp, fun h0 => ?_⟩
  obtain ⟨g, off, rfl, hg, hx⟩ := hA h0
  refine ⟨g, off, rfl, hg, fun i hi j u hu => ?_⟩
  have hi' : i < n := by simpa using hi
  have h1 := hF i hi'
  have h2 := hx i j u hi' (by rw [h1]; simpa using hu)
  rwa [← Nat.add_assoc] at h2
end
theorem sonce_row (bs : List Nat) (x : Nat) (z : Int) (A : Option Addr) (n c : Nat) (os : List OpG) (w : World) (hl : bs.length = 32) (hb : Bytes bs) (hx : x < 256) (hO : OpsG w A n os) (hT : Tab w) (hA : Alp w) :
    Calls Tryd.prog 6 #[.agg (cellsOf .u8 bs), .int .u8 (x : Nat), .int .i64 z, .slice A n c] w fun e w' => e = .returned (.bool true) ∧ Below w.heap.size w w' :=
  sonce_any ⟨bs, hl, hb⟩ x z A n c os w hx hO hT hA
end Go.Proofs.YtdnnjgjaffkdfaaDoor
