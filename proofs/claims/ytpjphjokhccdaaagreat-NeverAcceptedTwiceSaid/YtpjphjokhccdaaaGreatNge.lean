/- Seat n: the history's small functions. -/
import Derived.Test.YtpjphjokhccdaaaGreatNgd
namespace Go.Proofs.YtpjphjokhccdaaaGreat
open Go Go.RowKit Go.Bul Go.Thg Go.Lin Go.Maps
set_option maxRecDepth 20000 in
theorem isMinute_yes (n : Int) (w : World) (h0 : 0 ≤ n) (h1 : n ≤ 105190559) : Calls Tryz.prog 21 #[.int .i64 n] w fun e w' => e = .returned (.bool true) ∧ w = w' := by
  have c1 : decide (0 ≤ n) = true := decide_eq_true h0
  have c2 : decide (n ≤ 105190559) = true := decide_eq_true h1
  clear h0 h1
  go_enter Tryz.func21, Tryz.ntmps21
  go_wp2_with fail
  go_ret
  exact ⟨rfl, rfl⟩
set_option maxRecDepth 20000 in
theorem tooOld_any (d n : Int) (w : World) (h0 : 0 ≤ n) (h1 : n ≤ 105190559) : Calls Tryz.prog 22 #[.int .i64 d, .int .i64 n] w fun e w' => e = .returned (.bool (decide (d < n - 20160))) ∧ w = w' := by
  go_enter Tryz.func22, Tryz.ntmps22
  go_wp2_with fail
  go_ret
  exact ⟨rfl, rfl⟩
set_option maxRecDepth 20000 in
set_option maxHeartbeats 1000000 in
theorem hcheck_yes (j : Nat) (a d : Int) (p : Bool) (w : World) (a0 : 0 ≤ a) (a1 : a ≤ 105190559) (d0 : 0 ≤ d) (d1 : d ≤ 105190559) : Calls Tryz.prog 20 #[.agg (stC j [.int .i64 a, .int .i64 d, .int .i64 0, .bool p])] w fun e w' => e = .returned (.int .i64 0) ∧ Below w.heap.size w w' := by
  have hM := Mem.start [] w
  have HA := Lib.hid (fun w => isMinute_yes a w a0 a1)
  have HD := Lib.hid (fun w => isMinute_yes d w d0 d1)
  clear a0 a1 d0 d1
  go_enter Tryz.func20, Tryz.ntmps20
  go_wp2_with (first | ((with_reducible refine (HA.out _).mono ?_); rintro e w1 ⟨rfl, rfl⟩) | ((with_reducible refine (HD.out _).mono ?_); rintro e w1 ⟨rfl, rfl⟩) | ((first | with_reducible refine at_load ?_ | ((with_reducible refine at_load_g ?_ ?_); (· rfl))); first | refine nll hM ?_ | refine nlc hM ?_ | refine nlp hM ?_) | ((with_reducible refine at_store ?_); first | (refine nlw hM ?_; clear hM; intro wx hM) | (refine nls hM ?_; clear hM; intro wx hM) | (refine nlt hM ?_; clear hM; intro wx hM)) | ((with_reducible refine at_alloc ?_); refine nlz hM ?_; clear hM; intro gx wx hM) | ((with_reducible refine at_box ?_); first | (refine nlb hM ?_; clear hM; intro gx wx hM) | (refine nlx hM ?_; clear hM; intro gx wx hM)))
  go_ret
  exact ⟨rfl, hM.below⟩
section
variable {w w0 : World} {G : List Nat} {L : List Ent} {R : List Thing} {F : Thing → List Thing}
abbrev hist (b : Nat) (cut : Int) : Array Value := #[.map (some b), .int .i64 cut]
abbrev hentV (j : Nat) (a d s : Int) (p : Bool) : Value := .agg (stC j [.int .i64 a, .int .i64 d, .int .i64 s, .bool p])
theorem eq_mnil (b : Nat) (w : World) : Sem.run Tryz.prog (binOp .eql 69 (.map (some b)) (.map none)) w = .ok (.bool false) w := by kernel_rfl
set_option maxRecDepth 20000 in
set_option maxHeartbeats 2000000 in
theorem hadd_yes (h b j : Nat) (cut a d : Int) (p : Bool) (mp : Nat → Option Value) (hM : Mem G w0 L R w) (hj : j < 11) (hn : mp j = none) (a0 : 0 ≤ a) (a1 : a ≤ 105190559) (d0 : 0 ≤ d) (d1 : d ≤ 105190559)
    (hL : ⟨h, 71, 2, hist b cut⟩ ∈ L := by repeat (first | exact List.Mem.head _ | assumption | apply List.Mem.tail)) (hR : UpdR (mapT b mp) R F := by repeat (first | exact UpdR.head _ _ | assumption | apply UpdR.tail)) :
    Calls Tryz.prog 7 #[.pointer (some ⟨h, 0, none⟩), hentV j a d 0 p] w fun e w' => e = .returned (.int .i64 0) ∧ Mem G w0 L (F (mapT b (updM mp j (some (hentV j a d 0 p))))) w' := by
  have HC := Lib.hid (fun w => hcheck_yes j a d p w a0 a1 d0 d1)
  have hR0 := mem_of_updR hR
  have HV := Lib.hid (show (mp j).getD (hentV 0 0 0 0 false) = hentV 0 0 0 0 false by rw [hn]; rfl)
  have HI := Lib.hid (show (mp j).isSome = false by rw [hn]; rfl)
  have HJ := Lib.hid hj
  have cl := cntM_le mp
  have c0 : (0 : Int) ≤ (cntM mp : Nat) := Int.natCast_nonneg _
  have c1 : ((cntM mp : Nat) : Int) ≤ 11 := by omega
  clear a0 a1 d0 d1 hn hj cl
  go_enter Tryz.func7, Tryz.ntmps7
  go_upto_region 6 with (first | ((with_reducible refine (HC.out _).mono ?_); rintro e w1 ⟨rfl, hb⟩; replace hM := hM.step hb; clear hb) | ((first | with_reducible refine at_load ?_ | ((with_reducible refine at_load_g ?_ ?_); (· rfl))); first | refine nll hM ?_ | refine nlc hM ?_ | refine nlp hM ?_) | ((with_reducible refine at_store ?_); first | (refine nlw hM ?_; clear hM; intro wx hM) | (refine nls hM ?_; clear hM; intro wx hM) | (refine nlt hM ?_; clear hM; intro wx hM)) | ((with_reducible refine at_alloc ?_); refine nlz hM ?_; clear hM; intro gx wx hM) | ((with_reducible refine at_box ?_); first | (refine nlb hM ?_; clear hM; intro gx wx hM) | (refine nlx hM ?_; clear hM; intro gx wx hM)))
  refine wp_region_allHB hM (by kernel_rfl) ?_
  clear hM
  intro wd hM
  have HM0 := Lib.hid hM
  have hS := Below.refl wd.heap.size wd
  refine wpAllH_takes [0, 1, 2, 4, 3, 5, 6, 7, 8, 9] (by kernel_rfl) (fun _ _ _ _ _ h => h) hS (by kernel_rfl) ?_
  simp only [pickOps, List.filterMap_cons, List.filterMap_nil, List.getElem?_cons_zero, List.getElem?_cons_succ]
  repeat ((with_reducible apply wpHeld_step); (· rfl); (· (intro wq hSw; first | (go_simp; rfl) | (have hM' := HM0.out.step hSw; first | exact yields_load (C := fun _ => True) (nqc hM') rfl | exact yields_load (C := fun _ => True) (nql hM') rfl | exact yields_load (C := fun _ => True) (nqp hM') rfl | exact ymk mty_hist hM' HJ.out HV.out HI.out))); intro K hK; go_simp; (with_reducible refine hK _ ?_); clear hK K)
  refine wpHeld_nil ?_
  refine wpAllH_one 10 rfl (by kernel_rfl) ?_
  refine nlz (Mem.start [] wd) ?_
  intro gv wv hF
  refine wpList_then ⟨hF.below, ?_⟩
  refine wpAllH_one 11 rfl (by kernel_rfl) ?_
  refine nlw hF ?_
  clear hF
  intro wx hF
  refine wpList_then ⟨hF.below, ?_⟩
  replace hM := hM.frame hF
  simp only [List.cons_append, List.nil_append] at hM
  clear hS
  have hS := hF.below
  clear hF
  refine wpAllH_takes [12] (by kernel_rfl) (fun _ _ _ _ _ h => h) hS (by kernel_rfl) ?_
  simp only [pickOps, List.filterMap_cons, List.filterMap_nil, List.getElem?_cons_zero, List.getElem?_cons_succ]
  repeat ((with_reducible apply wpHeld_step); (· rfl); (· (intro wq hSw; first | (go_simp; rfl) | (have hM' := HM0.out.step hSw; first | exact yields_load (C := fun _ => True) (nqc hM') rfl | exact yields_load (C := fun _ => True) (nql hM') rfl | exact yields_load (C := fun _ => True) (nqp hM') rfl | fail))); intro K hK; go_simp; (with_reducible refine hK _ ?_); clear hK K)
  refine wpHeld_nil ?_
  clear hS HM0
  refine wpAllH_done (by kernel_rfl) ?_
  have c2 : decide ((1048576 : Int) ≤ (cntM mp : Nat)) = false := decide_eq_false (by omega)
  have c3 : decide (1048576 ≤ cntM mp) = false := decide_eq_false (by omega)
  clear c0 c1
  have qm := eq_mnil b
  go_upto_region 13 with (first | ((with_reducible refine at_blen ?_); refine nmn hM mty_hist ?_) | ((first | with_reducible refine at_load ?_ | ((with_reducible refine at_load_g ?_ ?_); (· rfl))); first | refine nll hM ?_ | refine nlc hM ?_ | refine nlp hM ?_) | ((with_reducible refine at_store ?_); first | (refine nlw hM ?_; clear hM; intro wx hM) | (refine nls hM ?_; clear hM; intro wx hM) | (refine nlt hM ?_; clear hM; intro wx hM)) | ((with_reducible refine at_alloc ?_); refine nlz hM ?_; clear hM; intro gx wx hM) | ((with_reducible refine at_box ?_); first | (refine nlb hM ?_; clear hM; intro gx wx hM) | (refine nlx hM ?_; clear hM; intro gx wx hM)))
  refine wp_region_allB hM 7 (by kernel_rfl) ?_
  clear hM
  intro wd hM
  have HM0 := Lib.hid hM
  have hS := Below.refl wd.heap.size wd
  refine wpAllT_takes [0, 1, 2, 4, 3, 5, 6] (by kernel_rfl) (fun _ _ _ _ _ h => h) hS (by kernel_rfl) ?_
  simp only [pickOps, List.filterMap_cons, List.filterMap_nil, List.getElem?_cons_zero, List.getElem?_cons_succ]
  repeat ((with_reducible apply wpHeld_step); (· rfl); (· (intro wq hSw; first | (go_simp; rfl) | (have hM' := HM0.out.step hSw; first | exact yields_load (C := fun _ => True) (nqc hM') rfl | exact yields_load (C := fun _ => True) (nql hM') rfl | exact yields_load (C := fun _ => True) (nqp hM') rfl | fail))); intro K hK; go_simp; (with_reducible refine hK _ ?_); clear hK K)
  refine wpHeld_nil ?_
  refine wpAllT_one 7 rfl (by kernel_rfl) ?_
  refine nmu hM mty_hist HJ.out ?_
  clear hM HM0 hS
  intro wx hM
  refine wpList_then ⟨.inl (by kernel_rfl), wpAllT_drop (by kernel_rfl) (wpAll_done (by kernel_rfl) ?_)⟩
  go_wp2_with fail
  go_ret
  exact ⟨rfl, hM.subL (by repeat (first | exact List.Sublist.refl _ | exact List.nil_sublist _ | apply List.Sublist.cons_cons | apply List.Sublist.cons))⟩
set_option maxRecDepth 20000 in
set_option maxHeartbeats 2000000 in
theorem hjudge_known (h b j : Nat) (cut a d s date now : Int) (p q : Bool) (mp : Nat → Option Value) (hM : Mem G w0 L R w) (hj : j < 11) (hn : mp j = some (hentV j a d s p)) (a0 : 0 ≤ now) (a1 : now ≤ 105190559) (d0 : 0 ≤ date) (d1 : date ≤ 105190559)
    (hL : ⟨h, 71, 2, hist b cut⟩ ∈ L := by repeat (first | exact List.Mem.head _ | assumption | apply List.Mem.tail)) (hR : mapT b mp ∈ R := by repeat (first | exact List.Mem.head _ | assumption | apply List.Mem.tail)) :
    Calls Tryz.prog 9 #[.pointer (some ⟨h, 0, none⟩), .agg (stC j []), .int .i64 date, .int .i64 now, .bool q] w fun e w' => e = .returned (.int .i64 7) ∧ Mem G w0 L R w' := by
  have HA := Lib.hid (fun w => isMinute_yes now w a0 a1)
  have HD := Lib.hid (fun w => isMinute_yes date w d0 d1)
  have HV := Lib.hid (show (mp j).getD (hentV 0 0 0 0 false) = hentV j a d s p by rw [hn]; rfl)
  have HI := Lib.hid (show (mp j).isSome = true by rw [hn]; rfl)
  have HJ := Lib.hid hj
  clear a0 a1 d0 d1 hn hj
  go_enter Tryz.func9, Tryz.ntmps9
  go_upto_region 5 with (first | ((with_reducible refine (HA.out _).mono ?_); rintro e w1 ⟨rfl, rfl⟩) | ((with_reducible refine (HD.out _).mono ?_); rintro e w1 ⟨rfl, rfl⟩) | ((first | with_reducible refine at_load ?_ | ((with_reducible refine at_load_g ?_ ?_); (· rfl))); first | refine nll hM ?_ | refine nlc hM ?_ | refine nlp hM ?_) | ((with_reducible refine at_store ?_); first | (refine nlw hM ?_; clear hM; intro wx hM) | (refine nls hM ?_; clear hM; intro wx hM) | (refine nlt hM ?_; clear hM; intro wx hM)) | ((with_reducible refine at_alloc ?_); refine nlz hM ?_; clear hM; intro gx wx hM) | ((with_reducible refine at_box ?_); first | (refine nlb hM ?_; clear hM; intro gx wx hM) | (refine nlx hM ?_; clear hM; intro gx wx hM)))
  refine wp_region_allHB hM (by kernel_rfl) ?_
  clear hM
  intro wd hM
  have HM0 := Lib.hid hM
  have hS := Below.refl wd.heap.size wd
  refine wpAllH_takes [0, 1, 2, 3, 4, 5, 6, 7, 8] (by kernel_rfl) (fun _ _ _ _ _ h => h) hS (by kernel_rfl) ?_
  simp only [pickOps, List.filterMap_cons, List.filterMap_nil, List.getElem?_cons_zero, List.getElem?_cons_succ]
  repeat ((with_reducible apply wpHeld_step); (· rfl); (· (intro wq hSw; first | (go_simp; rfl) | (have hM' := HM0.out.step hSw; first | exact yields_load (C := fun _ => True) (nqc hM') rfl | exact yields_load (C := fun _ => True) (nql hM') rfl | exact yields_load (C := fun _ => True) (nqp hM') rfl | exact ymk mty_hist hM' HJ.out HV.out HI.out))); intro K hK; go_simp; (with_reducible refine hK _ ?_); clear hK K)
  refine wpHeld_nil ?_
  refine wpAllH_one 9 rfl (by kernel_rfl) ?_
  refine nlz (Mem.start [] wd) ?_
  intro gv wv hF
  refine wpList_then ⟨hF.below, ?_⟩
  refine wpAllH_one 10 rfl (by kernel_rfl) ?_
  refine nlw hF ?_
  clear hF
  intro wx hF
  refine wpList_then ⟨hF.below, ?_⟩
  replace hM := hM.frame hF
  simp only [List.cons_append, List.nil_append] at hM
  clear hS
  have hS := hF.below
  clear hF
  refine wpAllH_takes [11] (by kernel_rfl) (fun _ _ _ _ _ h => h) hS (by kernel_rfl) ?_
  simp only [pickOps, List.filterMap_cons, List.filterMap_nil, List.getElem?_cons_zero, List.getElem?_cons_succ]
  repeat ((with_reducible apply wpHeld_step); (· rfl); (· (intro wq hSw; first | (go_simp; rfl) | (have hM' := HM0.out.step hSw; first | exact yields_load (C := fun _ => True) (nqc hM') rfl | exact yields_load (C := fun _ => True) (nql hM') rfl | exact yields_load (C := fun _ => True) (nqp hM') rfl | fail))); intro K hK; go_simp; (with_reducible refine hK _ ?_); clear hK K)
  refine wpHeld_nil ?_
  clear hS HM0
  refine wpAllH_done (by kernel_rfl) ?_
  go_wp2_with fail
  go_ret
  exact ⟨rfl, hM.subL (by repeat (first | exact List.Sublist.refl _ | exact List.nil_sublist _ | apply List.Sublist.cons_cons | apply List.Sublist.cons))⟩
def judgeE (date now cut : Int) (q : Bool) : Int := if now + 1440 < date then 15 else if !q && (decide (date < now - 20160) || decide (date < cut - 20160)) then 14 else 0
set_option maxRecDepth 20000 in
set_option maxHeartbeats 4000000 in
theorem hjudge_new (h b j : Nat) (cut date now : Int) (q : Bool) (mp : Nat → Option Value) (hM : Mem G w0 L R w) (hj : j < 11) (hn : mp j = none) (a0 : 0 ≤ now) (a1 : now ≤ 105190559) (d0 : 0 ≤ date) (d1 : date ≤ 105190559) (c0 : 0 ≤ cut) (c1 : cut ≤ 105190559)
    (hL : ⟨h, 71, 2, hist b cut⟩ ∈ L := by repeat (first | exact List.Mem.head _ | assumption | apply List.Mem.tail)) (hR : mapT b mp ∈ R := by repeat (first | exact List.Mem.head _ | assumption | apply List.Mem.tail)) :
    Calls Tryz.prog 9 #[.pointer (some ⟨h, 0, none⟩), .agg (stC j []), .int .i64 date, .int .i64 now, .bool q] w fun e w' => e = .returned (.int .i64 (judgeE date now cut q)) ∧ Mem G w0 L R w' := by
  have HA := Lib.hid (fun w => isMinute_yes now w a0 a1)
  have HD := Lib.hid (fun w => isMinute_yes date w d0 d1)
  have HO1 := Lib.hid (fun w => tooOld_any date now w a0 a1)
  have HO2 := Lib.hid (fun w => tooOld_any date cut w c0 c1)
  have HV := Lib.hid (show (mp j).getD (hentV 0 0 0 0 false) = hentV 0 0 0 0 false by rw [hn]; rfl)
  have HI := Lib.hid (show (mp j).isSome = false by rw [hn]; rfl)
  have HJ := Lib.hid hj
  unfold judgeE
  generalize decide (date < now - 20160) = o1 at HO1 ⊢
  generalize decide (date < cut - 20160) = o2 at HO2 ⊢
  clear d0 d1 hn hj c0 c1
  by_cases hf : now + 1440 < date
  · have f1 : decide (now + 1440 < date) = true := decide_eq_true hf
    rw [if_pos hf]
    clear hf
    go_enter Tryz.func9, Tryz.ntmps9
    go_upto_region 5 with (first | ((with_reducible refine (HA.out _).mono ?_); rintro e w1 ⟨rfl, rfl⟩) | ((with_reducible refine (HD.out _).mono ?_); rintro e w1 ⟨rfl, rfl⟩) | ((first | with_reducible refine at_load ?_ | ((with_reducible refine at_load_g ?_ ?_); (· rfl))); first | refine nll hM ?_ | refine nlc hM ?_ | refine nlp hM ?_) | ((with_reducible refine at_store ?_); first | (refine nlw hM ?_; clear hM; intro wx hM) | (refine nls hM ?_; clear hM; intro wx hM) | (refine nlt hM ?_; clear hM; intro wx hM)) | ((with_reducible refine at_alloc ?_); refine nlz hM ?_; clear hM; intro gx wx hM) | ((with_reducible refine at_box ?_); first | (refine nlb hM ?_; clear hM; intro gx wx hM) | (refine nlx hM ?_; clear hM; intro gx wx hM)))
    refine wp_region_allHB hM (by kernel_rfl) ?_
    clear hM
    intro wd hM
    have HM0 := Lib.hid hM
    have hS := Below.refl wd.heap.size wd
    refine wpAllH_takes [0, 1, 2, 3, 4, 5, 6, 7, 8] (by kernel_rfl) (fun _ _ _ _ _ h => h) hS (by kernel_rfl) ?_
    simp only [pickOps, List.filterMap_cons, List.filterMap_nil, List.getElem?_cons_zero, List.getElem?_cons_succ]
    repeat ((with_reducible apply wpHeld_step); (· rfl); (· (intro wq hSw; first | (go_simp; rfl) | (have hM' := HM0.out.step hSw; first | exact yields_load (C := fun _ => True) (nqc hM') rfl | exact yields_load (C := fun _ => True) (nql hM') rfl | exact yields_load (C := fun _ => True) (nqp hM') rfl | exact ymk mty_hist hM' HJ.out HV.out HI.out))); intro K hK; go_simp; (with_reducible refine hK _ ?_); clear hK K)
    refine wpHeld_nil ?_
    refine wpAllH_one 9 rfl (by kernel_rfl) ?_
    refine nlz (Mem.start [] wd) ?_
    intro gv wv hF
    refine wpList_then ⟨hF.below, ?_⟩
    refine wpAllH_one 10 rfl (by kernel_rfl) ?_
    refine nlw hF ?_
    clear hF
    intro wx hF
    refine wpList_then ⟨hF.below, ?_⟩
    replace hM := hM.frame hF
    simp only [List.cons_append, List.nil_append] at hM
    clear hS
    have hS := hF.below
    clear hF
    refine wpAllH_takes [11] (by kernel_rfl) (fun _ _ _ _ _ h => h) hS (by kernel_rfl) ?_
    simp only [pickOps, List.filterMap_cons, List.filterMap_nil, List.getElem?_cons_zero, List.getElem?_cons_succ]
    repeat ((with_reducible apply wpHeld_step); (· rfl); (· (intro wq hSw; first | (go_simp; rfl) | (have hM' := HM0.out.step hSw; first | exact yields_load (C := fun _ => True) (nqc hM') rfl | exact yields_load (C := fun _ => True) (nql hM') rfl | exact yields_load (C := fun _ => True) (nqp hM') rfl | fail))); intro K hK; go_simp; (with_reducible refine hK _ ?_); clear hK K)
    refine wpHeld_nil ?_
    clear hS HM0
    refine wpAllH_done (by kernel_rfl) ?_
    go_wp2_with fail
    go_ret
    exact ⟨rfl, hM.subL (by repeat (first | exact List.Sublist.refl _ | exact List.nil_sublist _ | apply List.Sublist.cons_cons | apply List.Sublist.cons))⟩
  · have f1 : decide (now + 1440 < date) = false := decide_eq_false hf
    rw [if_neg hf]
    clear hf
    cases q with
    | true =>
      go_enter Tryz.func9, Tryz.ntmps9
      go_upto_region 5 with (first | ((with_reducible refine (HA.out _).mono ?_); rintro e w1 ⟨rfl, rfl⟩) | ((with_reducible refine (HD.out _).mono ?_); rintro e w1 ⟨rfl, rfl⟩) | ((first | with_reducible refine at_load ?_ | ((with_reducible refine at_load_g ?_ ?_); (· rfl))); first | refine nll hM ?_ | refine nlc hM ?_ | refine nlp hM ?_) | ((with_reducible refine at_store ?_); first | (refine nlw hM ?_; clear hM; intro wx hM) | (refine nls hM ?_; clear hM; intro wx hM) | (refine nlt hM ?_; clear hM; intro wx hM)) | ((with_reducible refine at_alloc ?_); refine nlz hM ?_; clear hM; intro gx wx hM) | ((with_reducible refine at_box ?_); first | (refine nlb hM ?_; clear hM; intro gx wx hM) | (refine nlx hM ?_; clear hM; intro gx wx hM)))
      refine wp_region_allHB hM (by kernel_rfl) ?_
      clear hM
      intro wd hM
      have HM0 := Lib.hid hM
      have hS := Below.refl wd.heap.size wd
      refine wpAllH_takes [0, 1, 2, 3, 4, 5, 6, 7, 8] (by kernel_rfl) (fun _ _ _ _ _ h => h) hS (by kernel_rfl) ?_
      simp only [pickOps, List.filterMap_cons, List.filterMap_nil, List.getElem?_cons_zero, List.getElem?_cons_succ]
      repeat ((with_reducible apply wpHeld_step); (· rfl); (· (intro wq hSw; first | (go_simp; rfl) | (have hM' := HM0.out.step hSw; first | exact yields_load (C := fun _ => True) (nqc hM') rfl | exact yields_load (C := fun _ => True) (nql hM') rfl | exact yields_load (C := fun _ => True) (nqp hM') rfl | exact ymk mty_hist hM' HJ.out HV.out HI.out))); intro K hK; go_simp; (with_reducible refine hK _ ?_); clear hK K)
      refine wpHeld_nil ?_
      refine wpAllH_one 9 rfl (by kernel_rfl) ?_
      refine nlz (Mem.start [] wd) ?_
      intro gv wv hF
      refine wpList_then ⟨hF.below, ?_⟩
      refine wpAllH_one 10 rfl (by kernel_rfl) ?_
      refine nlw hF ?_
      clear hF
      intro wx hF
      refine wpList_then ⟨hF.below, ?_⟩
      replace hM := hM.frame hF
      simp only [List.cons_append, List.nil_append] at hM
      clear hS
      have hS := hF.below
      clear hF
      refine wpAllH_takes [11] (by kernel_rfl) (fun _ _ _ _ _ h => h) hS (by kernel_rfl) ?_
      simp only [pickOps, List.filterMap_cons, List.filterMap_nil, List.getElem?_cons_zero, List.getElem?_cons_succ]
      repeat ((with_reducible apply wpHeld_step); (· rfl); (· (intro wq hSw; first | (go_simp; rfl) | (have hM' := HM0.out.step hSw; first | exact yields_load (C := fun _ => True) (nqc hM') rfl | exact yields_load (C := fun _ => True) (nql hM') rfl | exact yields_load (C := fun _ => True) (nqp hM') rfl | fail))); intro K hK; go_simp; (with_reducible refine hK _ ?_); clear hK K)
      refine wpHeld_nil ?_
      clear hS HM0
      refine wpAllH_done (by kernel_rfl) ?_
      go_wp2_with (first | ((with_reducible refine (HO1.out _).mono ?_); rintro e w1 ⟨rfl, rfl⟩) | ((with_reducible refine (HO2.out _).mono ?_); rintro e w1 ⟨rfl, rfl⟩) | ((first | with_reducible refine at_load ?_ | ((with_reducible refine at_load_g ?_ ?_); (· rfl))); first | refine nll hM ?_ | refine nlc hM ?_ | refine nlp hM ?_) | ((with_reducible refine at_store ?_); first | (refine nlw hM ?_; clear hM; intro wx hM) | (refine nls hM ?_; clear hM; intro wx hM) | (refine nlt hM ?_; clear hM; intro wx hM)) | ((with_reducible refine at_alloc ?_); refine nlz hM ?_; clear hM; intro gx wx hM) | ((with_reducible refine at_box ?_); first | (refine nlb hM ?_; clear hM; intro gx wx hM) | (refine nlx hM ?_; clear hM; intro gx wx hM)))
      go_ret
      exact ⟨rfl, hM.subL (by repeat (first | exact List.Sublist.refl _ | exact List.nil_sublist _ | apply List.Sublist.cons_cons | apply List.Sublist.cons))⟩
    | false =>
      cases o1 with
      | true =>
        go_enter Tryz.func9, Tryz.ntmps9
        go_upto_region 5 with (first | ((with_reducible refine (HA.out _).mono ?_); rintro e w1 ⟨rfl, rfl⟩) | ((with_reducible refine (HD.out _).mono ?_); rintro e w1 ⟨rfl, rfl⟩) | ((first | with_reducible refine at_load ?_ | ((with_reducible refine at_load_g ?_ ?_); (· rfl))); first | refine nll hM ?_ | refine nlc hM ?_ | refine nlp hM ?_) | ((with_reducible refine at_store ?_); first | (refine nlw hM ?_; clear hM; intro wx hM) | (refine nls hM ?_; clear hM; intro wx hM) | (refine nlt hM ?_; clear hM; intro wx hM)) | ((with_reducible refine at_alloc ?_); refine nlz hM ?_; clear hM; intro gx wx hM) | ((with_reducible refine at_box ?_); first | (refine nlb hM ?_; clear hM; intro gx wx hM) | (refine nlx hM ?_; clear hM; intro gx wx hM)))
        refine wp_region_allHB hM (by kernel_rfl) ?_
        clear hM
        intro wd hM
        have HM0 := Lib.hid hM
        have hS := Below.refl wd.heap.size wd
        refine wpAllH_takes [0, 1, 2, 3, 4, 5, 6, 7, 8] (by kernel_rfl) (fun _ _ _ _ _ h => h) hS (by kernel_rfl) ?_
        simp only [pickOps, List.filterMap_cons, List.filterMap_nil, List.getElem?_cons_zero, List.getElem?_cons_succ]
        repeat ((with_reducible apply wpHeld_step); (· rfl); (· (intro wq hSw; first | (go_simp; rfl) | (have hM' := HM0.out.step hSw; first | exact yields_load (C := fun _ => True) (nqc hM') rfl | exact yields_load (C := fun _ => True) (nql hM') rfl | exact yields_load (C := fun _ => True) (nqp hM') rfl | exact ymk mty_hist hM' HJ.out HV.out HI.out))); intro K hK; go_simp; (with_reducible refine hK _ ?_); clear hK K)
        refine wpHeld_nil ?_
        refine wpAllH_one 9 rfl (by kernel_rfl) ?_
        refine nlz (Mem.start [] wd) ?_
        intro gv wv hF
        refine wpList_then ⟨hF.below, ?_⟩
        refine wpAllH_one 10 rfl (by kernel_rfl) ?_
        refine nlw hF ?_
        clear hF
        intro wx hF
        refine wpList_then ⟨hF.below, ?_⟩
        replace hM := hM.frame hF
        simp only [List.cons_append, List.nil_append] at hM
        clear hS
        have hS := hF.below
        clear hF
        refine wpAllH_takes [11] (by kernel_rfl) (fun _ _ _ _ _ h => h) hS (by kernel_rfl) ?_
        simp only [pickOps, List.filterMap_cons, List.filterMap_nil, List.getElem?_cons_zero, List.getElem?_cons_succ]
        repeat ((with_reducible apply wpHeld_step); (· rfl); (· (intro wq hSw; first | (go_simp; rfl) | (have hM' := HM0.out.step hSw; first | exact yields_load (C := fun _ => True) (nqc hM') rfl | exact yields_load (C := fun _ => True) (nql hM') rfl | exact yields_load (C := fun _ => True) (nqp hM') rfl | fail))); intro K hK; go_simp; (with_reducible refine hK _ ?_); clear hK K)
        refine wpHeld_nil ?_
        clear hS HM0
        refine wpAllH_done (by kernel_rfl) ?_
        go_wp2_with (first | ((with_reducible refine (HO1.out _).mono ?_); rintro e w1 ⟨rfl, rfl⟩) | ((with_reducible refine (HO2.out _).mono ?_); rintro e w1 ⟨rfl, rfl⟩) | ((first | with_reducible refine at_load ?_ | ((with_reducible refine at_load_g ?_ ?_); (· rfl))); first | refine nll hM ?_ | refine nlc hM ?_ | refine nlp hM ?_) | ((with_reducible refine at_store ?_); first | (refine nlw hM ?_; clear hM; intro wx hM) | (refine nls hM ?_; clear hM; intro wx hM) | (refine nlt hM ?_; clear hM; intro wx hM)) | ((with_reducible refine at_alloc ?_); refine nlz hM ?_; clear hM; intro gx wx hM) | ((with_reducible refine at_box ?_); first | (refine nlb hM ?_; clear hM; intro gx wx hM) | (refine nlx hM ?_; clear hM; intro gx wx hM)))
        go_ret
        exact ⟨rfl, hM.subL (by repeat (first | exact List.Sublist.refl _ | exact List.nil_sublist _ | apply List.Sublist.cons_cons | apply List.Sublist.cons))⟩
      | false =>
        cases o2 with
        | true =>
          go_enter Tryz.func9, Tryz.ntmps9
          go_upto_region 5 with (first | ((with_reducible refine (HA.out _).mono ?_); rintro e w1 ⟨rfl, rfl⟩) | ((with_reducible refine (HD.out _).mono ?_); rintro e w1 ⟨rfl, rfl⟩) | ((first | with_reducible refine at_load ?_ | ((with_reducible refine at_load_g ?_ ?_); (· rfl))); first | refine nll hM ?_ | refine nlc hM ?_ | refine nlp hM ?_) | ((with_reducible refine at_store ?_); first | (refine nlw hM ?_; clear hM; intro wx hM) | (refine nls hM ?_; clear hM; intro wx hM) | (refine nlt hM ?_; clear hM; intro wx hM)) | ((with_reducible refine at_alloc ?_); refine nlz hM ?_; clear hM; intro gx wx hM) | ((with_reducible refine at_box ?_); first | (refine nlb hM ?_; clear hM; intro gx wx hM) | (refine nlx hM ?_; clear hM; intro gx wx hM)))
          refine wp_region_allHB hM (by kernel_rfl) ?_
          clear hM
          intro wd hM
          have HM0 := Lib.hid hM
          have hS := Below.refl wd.heap.size wd
          refine wpAllH_takes [0, 1, 2, 3, 4, 5, 6, 7, 8] (by kernel_rfl) (fun _ _ _ _ _ h => h) hS (by kernel_rfl) ?_
          simp only [pickOps, List.filterMap_cons, List.filterMap_nil, List.getElem?_cons_zero, List.getElem?_cons_succ]
          repeat ((with_reducible apply wpHeld_step); (· rfl); (· (intro wq hSw; first | (go_simp; rfl) | (have hM' := HM0.out.step hSw; first | exact yields_load (C := fun _ => True) (nqc hM') rfl | exact yields_load (C := fun _ => True) (nql hM') rfl | exact yields_load (C := fun _ => True) (nqp hM') rfl | exact ymk mty_hist hM' HJ.out HV.out HI.out))); intro K hK; go_simp; (with_reducible refine hK _ ?_); clear hK K)
          refine wpHeld_nil ?_
          refine wpAllH_one 9 rfl (by kernel_rfl) ?_
          refine nlz (Mem.start [] wd) ?_
          intro gv wv hF
          refine wpList_then ⟨hF.below, ?_⟩
          refine wpAllH_one 10 rfl (by kernel_rfl) ?_
          refine nlw hF ?_
          clear hF
          intro wx hF
          refine wpList_then ⟨hF.below, ?_⟩
          replace hM := hM.frame hF
          simp only [List.cons_append, List.nil_append] at hM
          clear hS
          have hS := hF.below
          clear hF
          refine wpAllH_takes [11] (by kernel_rfl) (fun _ _ _ _ _ h => h) hS (by kernel_rfl) ?_
          simp only [pickOps, List.filterMap_cons, List.filterMap_nil, List.getElem?_cons_zero, List.getElem?_cons_succ]
          repeat ((with_reducible apply wpHeld_step); (· rfl); (· (intro wq hSw; first | (go_simp; rfl) | (have hM' := HM0.out.step hSw; first | exact yields_load (C := fun _ => True) (nqc hM') rfl | exact yields_load (C := fun _ => True) (nql hM') rfl | exact yields_load (C := fun _ => True) (nqp hM') rfl | fail))); intro K hK; go_simp; (with_reducible refine hK _ ?_); clear hK K)
          refine wpHeld_nil ?_
          clear hS HM0
          refine wpAllH_done (by kernel_rfl) ?_
          go_wp2_with (first | ((with_reducible refine (HO1.out _).mono ?_); rintro e w1 ⟨rfl, rfl⟩) | ((with_reducible refine (HO2.out _).mono ?_); rintro e w1 ⟨rfl, rfl⟩) | ((first | with_reducible refine at_load ?_ | ((with_reducible refine at_load_g ?_ ?_); (· rfl))); first | refine nll hM ?_ | refine nlc hM ?_ | refine nlp hM ?_) | ((with_reducible refine at_store ?_); first | (refine nlw hM ?_; clear hM; intro wx hM) | (refine nls hM ?_; clear hM; intro wx hM) | (refine nlt hM ?_; clear hM; intro wx hM)) | ((with_reducible refine at_alloc ?_); refine nlz hM ?_; clear hM; intro gx wx hM) | ((with_reducible refine at_box ?_); first | (refine nlb hM ?_; clear hM; intro gx wx hM) | (refine nlx hM ?_; clear hM; intro gx wx hM)))
          go_ret
          exact ⟨rfl, hM.subL (by repeat (first | exact List.Sublist.refl _ | exact List.nil_sublist _ | apply List.Sublist.cons_cons | apply List.Sublist.cons))⟩
        | false =>
          go_enter Tryz.func9, Tryz.ntmps9
          go_upto_region 5 with (first | ((with_reducible refine (HA.out _).mono ?_); rintro e w1 ⟨rfl, rfl⟩) | ((with_reducible refine (HD.out _).mono ?_); rintro e w1 ⟨rfl, rfl⟩) | ((first | with_reducible refine at_load ?_ | ((with_reducible refine at_load_g ?_ ?_); (· rfl))); first | refine nll hM ?_ | refine nlc hM ?_ | refine nlp hM ?_) | ((with_reducible refine at_store ?_); first | (refine nlw hM ?_; clear hM; intro wx hM) | (refine nls hM ?_; clear hM; intro wx hM) | (refine nlt hM ?_; clear hM; intro wx hM)) | ((with_reducible refine at_alloc ?_); refine nlz hM ?_; clear hM; intro gx wx hM) | ((with_reducible refine at_box ?_); first | (refine nlb hM ?_; clear hM; intro gx wx hM) | (refine nlx hM ?_; clear hM; intro gx wx hM)))
          refine wp_region_allHB hM (by kernel_rfl) ?_
          clear hM
          intro wd hM
          have HM0 := Lib.hid hM
          have hS := Below.refl wd.heap.size wd
          refine wpAllH_takes [0, 1, 2, 3, 4, 5, 6, 7, 8] (by kernel_rfl) (fun _ _ _ _ _ h => h) hS (by kernel_rfl) ?_
          simp only [pickOps, List.filterMap_cons, List.filterMap_nil, List.getElem?_cons_zero, List.getElem?_cons_succ]
          repeat ((with_reducible apply wpHeld_step); (· rfl); (· (intro wq hSw; first | (go_simp; rfl) | (have hM' := HM0.out.step hSw; first | exact yields_load (C := fun _ => True) (nqc hM') rfl | exact yields_load (C := fun _ => True) (nql hM') rfl | exact yields_load (C := fun _ => True) (nqp hM') rfl | exact ymk mty_hist hM' HJ.out HV.out HI.out))); intro K hK; go_simp; (with_reducible refine hK _ ?_); clear hK K)
          refine wpHeld_nil ?_
          refine wpAllH_one 9 rfl (by kernel_rfl) ?_
          refine nlz (Mem.start [] wd) ?_
          intro gv wv hF
          refine wpList_then ⟨hF.below, ?_⟩
          refine wpAllH_one 10 rfl (by kernel_rfl) ?_
          refine nlw hF ?_
          clear hF
          intro wx hF
          refine wpList_then ⟨hF.below, ?_⟩
          replace hM := hM.frame hF
          simp only [List.cons_append, List.nil_append] at hM
          clear hS
          have hS := hF.below
          clear hF
          refine wpAllH_takes [11] (by kernel_rfl) (fun _ _ _ _ _ h => h) hS (by kernel_rfl) ?_
          simp only [pickOps, List.filterMap_cons, List.filterMap_nil, List.getElem?_cons_zero, List.getElem?_cons_succ]
          repeat ((with_reducible apply wpHeld_step); (· rfl); (· (intro wq hSw; first | (go_simp; rfl) | (have hM' := HM0.out.step hSw; first | exact yields_load (C := fun _ => True) (nqc hM') rfl | exact yields_load (C := fun _ => True) (nql hM') rfl | exact yields_load (C := fun _ => True) (nqp hM') rfl | fail))); intro K hK; go_simp; (with_reducible refine hK _ ?_); clear hK K)
          refine wpHeld_nil ?_
          clear hS HM0
          refine wpAllH_done (by kernel_rfl) ?_
          go_wp2_with (first | ((with_reducible refine (HO1.out _).mono ?_); rintro e w1 ⟨rfl, rfl⟩) | ((with_reducible refine (HO2.out _).mono ?_); rintro e w1 ⟨rfl, rfl⟩) | ((first | with_reducible refine at_load ?_ | ((with_reducible refine at_load_g ?_ ?_); (· rfl))); first | refine nll hM ?_ | refine nlc hM ?_ | refine nlp hM ?_) | ((with_reducible refine at_store ?_); first | (refine nlw hM ?_; clear hM; intro wx hM) | (refine nls hM ?_; clear hM; intro wx hM) | (refine nlt hM ?_; clear hM; intro wx hM)) | ((with_reducible refine at_alloc ?_); refine nlz hM ?_; clear hM; intro gx wx hM) | ((with_reducible refine at_box ?_); first | (refine nlb hM ?_; clear hM; intro gx wx hM) | (refine nlx hM ?_; clear hM; intro gx wx hM)))
          go_ret
          exact ⟨rfl, hM.subL (by repeat (first | exact List.Sublist.refl _ | exact List.nil_sublist _ | apply List.Sublist.cons_cons | apply List.Sublist.cons))⟩
set_option maxRecDepth 20000 in
set_option maxHeartbeats 2000000 in
theorem hgone_yes (h b j : Nat) (cut a d : Int) (p : Bool) (mp : Nat → Option Value) (hM : Mem G w0 L R w) (hj : j < 11) (hn : mp j = some (hentV j a d 0 p))
    (hL : ⟨h, 71, 2, hist b cut⟩ ∈ L := by repeat (first | exact List.Mem.head _ | assumption | apply List.Mem.tail)) (hR : UpdR (mapT b mp) R F := by repeat (first | exact UpdR.head _ _ | assumption | apply UpdR.tail)) :
    Calls Tryz.prog 14 #[.pointer (some ⟨h, 0, none⟩), .agg (stC j [])] w fun e w' => e = .returned (.int .i64 0) ∧ Mem G w0 L (F (mapT b (updM mp j (some (hentV j a d 1 p))))) w' := by
  have hR0 := mem_of_updR hR
  have HV := Lib.hid (show (mp j).getD (hentV 0 0 0 0 false) = hentV j a d 0 p by rw [hn]; rfl)
  have HI := Lib.hid (show (mp j).isSome = true by rw [hn]; rfl)
  have HJ := Lib.hid hj
  clear hn hj
  go_enter Tryz.func14, Tryz.ntmps14
  go_upto_region 3 with (first | ((first | with_reducible refine at_load ?_ | ((with_reducible refine at_load_g ?_ ?_); (· rfl))); first | refine nll hM ?_ | refine nlc hM ?_ | refine nlp hM ?_) | ((with_reducible refine at_store ?_); first | (refine nlw hM ?_; clear hM; intro wx hM) | (refine nls hM ?_; clear hM; intro wx hM) | (refine nlt hM ?_; clear hM; intro wx hM)) | ((with_reducible refine at_alloc ?_); refine nlz hM ?_; clear hM; intro gx wx hM) | ((with_reducible refine at_box ?_); first | (refine nlb hM ?_; clear hM; intro gx wx hM) | (refine nlx hM ?_; clear hM; intro gx wx hM)))
  refine wp_region_allHB hM (by kernel_rfl) ?_
  clear hM
  intro wd hM
  have HM0 := Lib.hid hM
  have hS := Below.refl wd.heap.size wd
  refine wpAllH_takes [0, 1, 2, 3, 4, 5, 6, 7, 8] (by kernel_rfl) (fun _ _ _ _ _ h => h) hS (by kernel_rfl) ?_
  simp only [pickOps, List.filterMap_cons, List.filterMap_nil, List.getElem?_cons_zero, List.getElem?_cons_succ]
  repeat ((with_reducible apply wpHeld_step); (· rfl); (· (intro wq hSw; first | (go_simp; rfl) | (have hM' := HM0.out.step hSw; first | exact yields_load (C := fun _ => True) (nqc hM') rfl | exact yields_load (C := fun _ => True) (nql hM') rfl | exact yields_load (C := fun _ => True) (nqp hM') rfl | exact ymk mty_hist hM' HJ.out HV.out HI.out))); intro K hK; go_simp; (with_reducible refine hK _ ?_); clear hK K)
  refine wpHeld_nil ?_
  refine wpAllH_one 9 rfl (by kernel_rfl) ?_
  refine nlz (Mem.start [] wd) ?_
  intro gv wv hF
  refine wpList_then ⟨hF.below, ?_⟩
  refine wpAllH_one 10 rfl (by kernel_rfl) ?_
  refine nlw hF ?_
  clear hF
  intro wx hF
  refine wpList_then ⟨hF.below, ?_⟩
  replace hM := hM.frame hF
  simp only [List.cons_append, List.nil_append] at hM
  clear hS
  have hS := hF.below
  clear hF
  refine wpAllH_takes [11] (by kernel_rfl) (fun _ _ _ _ _ h => h) hS (by kernel_rfl) ?_
  simp only [pickOps, List.filterMap_cons, List.filterMap_nil, List.getElem?_cons_zero, List.getElem?_cons_succ]
  repeat ((with_reducible apply wpHeld_step); (· rfl); (· (intro wq hSw; first | (go_simp; rfl) | (have hM' := HM0.out.step hSw; first | exact yields_load (C := fun _ => True) (nqc hM') rfl | exact yields_load (C := fun _ => True) (nql hM') rfl | exact yields_load (C := fun _ => True) (nqp hM') rfl | fail))); intro K hK; go_simp; (with_reducible refine hK _ ?_); clear hK K)
  refine wpHeld_nil ?_
  clear hS HM0
  refine wpAllH_done (by kernel_rfl) ?_
  go_upto_region 9 with (first | ((first | with_reducible refine at_load ?_ | ((with_reducible refine at_load_g ?_ ?_); (· rfl))); first | refine nll hM ?_ | refine nlc hM ?_ | refine nlp hM ?_) | ((with_reducible refine at_store ?_); first | (refine nlw hM ?_; clear hM; intro wx hM) | (refine nls hM ?_; clear hM; intro wx hM) | (refine nlt hM ?_; clear hM; intro wx hM)) | ((with_reducible refine at_alloc ?_); refine nlz hM ?_; clear hM; intro gx wx hM) | ((with_reducible refine at_box ?_); first | (refine nlb hM ?_; clear hM; intro gx wx hM) | (refine nlx hM ?_; clear hM; intro gx wx hM)))
  refine wp_region_allB hM 6 (by kernel_rfl) ?_
  clear hM
  intro wd hM
  have HM0 := Lib.hid hM
  have hS := Below.refl wd.heap.size wd
  refine wpAllT_takes [0, 1, 2, 3, 4, 5] (by kernel_rfl) (fun _ _ _ _ _ h => h) hS (by kernel_rfl) ?_
  simp only [pickOps, List.filterMap_cons, List.filterMap_nil, List.getElem?_cons_zero, List.getElem?_cons_succ]
  repeat ((with_reducible apply wpHeld_step); (· rfl); (· (intro wq hSw; first | (go_simp; rfl) | (have hM' := HM0.out.step hSw; first | exact yields_load (C := fun _ => True) (nqc hM') rfl | exact yields_load (C := fun _ => True) (nql hM') rfl | exact yields_load (C := fun _ => True) (nqp hM') rfl | fail))); intro K hK; go_simp; (with_reducible refine hK _ ?_); clear hK K)
  refine wpHeld_nil ?_
  refine wpAllT_one 6 rfl (by kernel_rfl) ?_
  refine nmu hM mty_hist HJ.out ?_
  clear hM HM0 hS
  intro wx hM
  refine wpList_then ⟨.inl (by kernel_rfl), wpAllT_drop (by kernel_rfl) (wpAll_done (by kernel_rfl) ?_)⟩
  go_wp2_with fail
  go_ret
  exact ⟨rfl, hM.subL (by repeat (first | exact List.Sublist.refl _ | exact List.nil_sublist _ | apply List.Sublist.cons_cons | apply List.Sublist.cons))⟩
set_option maxRecDepth 20000 in
set_option maxHeartbeats 2000000 in
theorem hlen_any (h b : Nat) (cut : Int) (mp : Nat → Option Value) (hM : Mem G w0 L R w) (hL : ⟨h, 71, 2, hist b cut⟩ ∈ L := by repeat (first | exact List.Mem.head _ | assumption | apply List.Mem.tail)) (hR : mapT b mp ∈ R := by repeat (first | exact List.Mem.head _ | assumption | apply List.Mem.tail)) :
    Calls Tryz.prog 8 #[.pointer (some ⟨h, 0, none⟩)] w fun e w' => e = .returned (.int .i64 (cntM mp : Nat)) ∧ w = w' := by
  go_enter Tryz.func8, Tryz.ntmps8
  go_wp2_with (first | ((with_reducible refine at_blen ?_); refine nmn hM mty_hist ?_) | ((first | with_reducible refine at_load ?_ | ((with_reducible refine at_load_g ?_ ?_); (· rfl))); first | refine nll hM ?_ | refine nlc hM ?_ | refine nlp hM ?_) | ((with_reducible refine at_store ?_); first | (refine nlw hM ?_; clear hM; intro wx hM) | (refine nls hM ?_; clear hM; intro wx hM) | (refine nlt hM ?_; clear hM; intro wx hM)) | ((with_reducible refine at_alloc ?_); refine nlz hM ?_; clear hM; intro gx wx hM) | ((with_reducible refine at_box ?_); first | (refine nlb hM ?_; clear hM; intro gx wx hM) | (refine nlx hM ?_; clear hM; intro gx wx hM)))
  go_ret
  exact ⟨rfl, rfl⟩
theorem run_hist (b : Nat) (w : World) : (Instr.build 71 #[(0, .map (some b))]).run Tryz.prog w = .ok (.agg (hist b 0)) w := by kernel_rfl
set_option maxRecDepth 20000 in
set_option maxHeartbeats 2000000 in
theorem hnew_any (w : World) : Calls Tryz.prog 4 #[] w fun e w' => ∃ h b, e = .returned (.pointer (some ⟨h, 0, none⟩)) ∧ Mem [] w [⟨h, 71, 2, hist b 0⟩] [mapT b (fun _ => none)] w' := by
  have hM := Mem.start [] w
  go_enter Tryz.func4, Tryz.ntmps4
  go_wp2_with (first | ((with_reducible refine at_mmake ?_); refine nmm hM ?_; clear hM; intro b w1 hM) | ((with_reducible refine at_build ?_); refine wpList_build_run rfl _ _ rfl _ rfl _ (run_hist b _) ?_) | ((first | with_reducible refine at_load ?_ | ((with_reducible refine at_load_g ?_ ?_); (· rfl))); first | refine nll hM ?_ | refine nlc hM ?_ | refine nlp hM ?_) | ((with_reducible refine at_store ?_); first | (refine nlw hM ?_; clear hM; intro wx hM) | (refine nls hM ?_; clear hM; intro wx hM) | (refine nlt hM ?_; clear hM; intro wx hM)) | ((with_reducible refine at_alloc ?_); refine nlz hM ?_; clear hM; intro gx wx hM) | ((with_reducible refine at_box ?_); first | (refine nlb hM ?_; clear hM; intro gx wx hM) | (refine nlx hM ?_; clear hM; intro gx wx hM)))
  go_ret
  exact ⟨_, _, rfl, hM⟩
end
end Go.Proofs.YtpjphjokhccdaaaGreat
