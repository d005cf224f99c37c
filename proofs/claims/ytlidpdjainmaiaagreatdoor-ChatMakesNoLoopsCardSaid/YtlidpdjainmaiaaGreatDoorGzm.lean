/- Seat c: Read: what another room posted. -/
import Derived.Test.YtlidpdjainmaiaaGreatDoorGzl
namespace Go.Proofs.YtlidpdjainmaiaaGreatDoor
open Go Go.RowKit Go.Bul Go.Thg Go.Lin Go.Cht Go.Maps
theorem mk_take (T : List ByteArray) (f : ByteArray → Ln) {k : Nat} (hk : k < T.length) : (T.map f).take k ++ [f T[k]] = (T.map f).take (k + 1) := by
  rw [List.take_succ_eq_append_getElem (by simpa using hk)]
  simp
section
variable {w w0 : World} {L : List Ent} {R : List Thing} {FL : Array Value → List Ent} {FR : Thing → List Thing}
set_option maxRecDepth 20000 in
set_option maxHeartbeats 8000000 in
theorem read_other (g j : Nat) (rm gp nk nm sj bd : ByteArray) (V : Value) (last mm mr date : Nat) (mpm mpr : Nat → Option Value) (ls : List Ln) (b : Nat) (t : List Nat) (hM : Mem [] w0 L R w) (hB : Bnd w0) (hP : Pow w0) (hL : ⟨g, 57, 7, gwA rm gp nk V last mm mr⟩ ∈ L) (hR : UpdR (mapT mr mpr) R FR) (hR2 : mapT mm mpm ∈ FR (mapT mr (updM mpr j (some (.bool true))))) (hj : j < 200) (hno : mpr j = none) (hno2 : mpm j = none) (hd : date ≤ 105190559)
    (hbd : nums bd = bodyL ls) (hok : ∀ l ∈ ls, OkL l) (hpl : ∀ l ∈ ls, (prL l).length ≤ 400) (h50 : ls.length ≤ 50) (hhd : nums ((nm ++ ⟨#[58, 32]⟩) ++ sj) = b :: t) (hblk : blk b = false) (hpr : Pr (b :: t)) (h4 : (b :: t).length ≤ 400) (hbs : bd.size ≤ 100000000) :
    Calls Tryz.prog 11 #[p1 g, .agg (stC j [.string nm, .string sj, .string bd, .int .i64 (date : Nat)])] w fun e w' => ∃ (A : Option Addr) (n c : Nat) (T : List ByteArray), 0 < T.length ∧ T.length ≤ 50 ∧ (∀ x ∈ T, chkT (nums x) = 0) ∧ e = .returned (.tuple #[.slice A n c, .int .i64 0]) ∧ Mem [] w0 L (lT (.slice A n c) (T.map fun x => ⟨date, nk, x⟩) :: FR (mapT mr (updM mpr j (some (.bool true))))) w' := by
  have hR0 := mem_of_updR hR
  have HTX := Lib.hid (fun w hB hP => texts_any j nm sj bd (date : Nat) ls b t hbd hok hpl h50 hhd hblk hpr h4 hbs w hB hP)
  have HB := Lib.hid (fun w' hb => hB.keep (w' := w') hb)
  have HPW := Lib.hid (fun w' hb => hP.keep (w' := w') hb)
  have HJ := Lib.hid (And.intro hj (And.intro (show (mpr j).getD (.bool false) = .bool false by rw [hno]; rfl) (show (mpm j).getD (.bool false) = .bool false by rw [hno2]; rfl)))
  have HMN := Lib.hid (isMin_any (date : Nat))
  have hmb : minB (date : Nat) = true := by simp [minB]; omega
  rw [hmb] at HMN
  clear hj hno hno2 hd hmb hbd hok hpl h50 hhd hblk hpr h4 hbs hB hP
  go_enter Tryz.func11, Tryz.ntmps11
  go_wp2_with (first | ((with_reducible refine at_box ?_); refine nlb (cs := stC j [.string nm, .string sj, .string bd, .int .i64 (date : Nat)]) hM ?_ (n := 36) (hn := stC_size _ _); clear hM; intro gi wx hM) | ((with_reducible refine (HMN.out _).mono ?_); rintro e w1 ⟨rfl, rfl⟩) | ((first | with_reducible refine at_load ?_ | ((with_reducible refine at_load_g ?_ ?_); (· rfl))); first | refine nll hM ?_ | refine nlc hM ?_ | refine nlp hM ?_) | ((with_reducible refine at_store ?_); first | (refine nlw hM ?_; clear hM; intro wx hM) | (refine nls hM ?_; clear hM; intro wx hM) | (refine nlt hM ?_; clear hM; intro wx hM)) | ((with_reducible refine at_alloc ?_); refine nlz hM ?_; clear hM; intro gx wx hM) | ((with_reducible refine at_box ?_); first | (refine nlb hM ?_; clear hM; intro gx wx hM) | (refine nlx hM ?_; clear hM; intro gx wx hM)))
  refine wp_region_allHB hM (by kernel_rfl) ?_
  clear hM
  intro wd hM
  have HM0 := Lib.hid hM
  have hS := Below.refl wd.heap.size wd
  refine wpAllH_takes [0, 1, 2, 4] (by kernel_rfl) (fun _ _ _ _ _ h => h) hS (by kernel_rfl) ?_
  simp only [pickOps, List.filterMap_cons, List.filterMap_nil, List.getElem?_cons_zero, List.getElem?_cons_succ]
  repeat ((with_reducible apply wpHeld_step); (· rfl); (· (intro wq hSw; first | (go_simp; rfl) | (have hM' := HM0.out.step hSw; first | exact yields_load (C := fun _ => True) (nqc hM') rfl | exact yields_load (C := fun _ => True) (nql hM') rfl | exact yields_load (C := fun _ => True) (nqp hM') rfl | fail))); intro K hK; go_simp; (with_reducible refine hK _ ?_); clear hK K)
  refine wpHeld_nil ?_
  refine wpAllH_takes [3, 5] (by kernel_rfl) (fun _ _ _ _ _ h => h) hS (by kernel_rfl) ?_
  simp only [pickOps, List.filterMap_cons, List.filterMap_nil, List.getElem?_cons_zero, List.getElem?_cons_succ]
  repeat ((with_reducible apply wpHeld_step); (· rfl); (· (intro wq hSw; first | (go_simp; rfl) | (have hM' := HM0.out.step hSw; first | exact yields_load (C := fun _ => True) (nqc hM') rfl | exact yields_load (C := fun _ => True) (nql hM') rfl | exact yields_load (C := fun _ => True) (nqp hM') rfl | fail))); intro K hK; go_simp; (with_reducible refine hK _ ?_); clear hK K)
  refine wpHeld_nil ?_
  refine wpAllH_takes [6, 7] (by kernel_rfl) (fun _ _ _ _ _ h => h) hS (by kernel_rfl) ?_
  simp only [pickOps, List.filterMap_cons, List.filterMap_nil, List.getElem?_cons_zero, List.getElem?_cons_succ]
  repeat ((with_reducible apply wpHeld_step); (· rfl); (· (intro wq hSw; first | (go_simp; rfl) | (have hM' := HM0.out.step hSw; first | exact yields_load (C := fun _ => True) (nqc hM') rfl | exact yields_load (C := fun _ => True) (nql hM') rfl | exact yields_load (C := fun _ => True) (nqp hM') rfl | exact yml mty_bool hM' HJ.out.1 HJ.out.2.1))); intro K hK; go_simp; (with_reducible refine hK _ ?_); clear hK K)
  refine wpHeld_nil ?_
  clear hS HM0
  refine wpAllH_done (by kernel_rfl) ?_
  have hq := fun w => mnil_run mr w
  go_wp2_with (first | ((first | with_reducible refine at_load ?_ | ((with_reducible refine at_load_g ?_ ?_); (· rfl))); first | refine nll hM ?_ | refine nlc hM ?_ | refine nlp hM ?_) | ((with_reducible refine at_store ?_); first | (refine nlw hM ?_; clear hM; intro wx hM) | (refine nls hM ?_; clear hM; intro wx hM) | (refine nlt hM ?_; clear hM; intro wx hM)) | ((with_reducible refine at_alloc ?_); refine nlz hM ?_; clear hM; intro gx wx hM) | ((with_reducible refine at_box ?_); first | (refine nlb hM ?_; clear hM; intro gx wx hM) | (refine nlx hM ?_; clear hM; intro gx wx hM)))
  clear hq
  refine wp_region_allB hM 6 (by kernel_rfl) ?_
  clear hM
  intro wd hM
  have HM0 := Lib.hid hM
  have hS := Below.refl wd.heap.size wd
  refine wpAllT_takes [0, 1, 2, 4] (by kernel_rfl) (fun _ _ _ _ _ h => h) hS (by kernel_rfl) ?_
  simp only [pickOps, List.filterMap_cons, List.filterMap_nil, List.getElem?_cons_zero, List.getElem?_cons_succ]
  repeat ((with_reducible apply wpHeld_step); (· rfl); (· (intro wq hSw; first | (go_simp; rfl) | (have hM' := HM0.out.step hSw; first | exact yields_load (C := fun _ => True) (nqc hM') rfl | exact yields_load (C := fun _ => True) (nql hM') rfl | exact yields_load (C := fun _ => True) (nqp hM') rfl | fail))); intro K hK; go_simp; (with_reducible refine hK _ ?_); clear hK K)
  refine wpHeld_nil ?_
  refine wpAllT_takes [3, 5] (by kernel_rfl) (fun _ _ _ _ _ h => h) hS (by kernel_rfl) ?_
  simp only [pickOps, List.filterMap_cons, List.filterMap_nil, List.getElem?_cons_zero, List.getElem?_cons_succ]
  repeat ((with_reducible apply wpHeld_step); (· rfl); (· (intro wq hSw; first | (go_simp; rfl) | (have hM' := HM0.out.step hSw; first | exact yields_load (C := fun _ => True) (nqc hM') rfl | exact yields_load (C := fun _ => True) (nql hM') rfl | exact yields_load (C := fun _ => True) (nqp hM') rfl | fail))); intro K hK; go_simp; (with_reducible refine hK _ ?_); clear hK K)
  refine wpHeld_nil ?_
  refine wpAllT_one 6 rfl (by kernel_rfl) ?_
  refine nmu hM (v := .bool true) mty_bool HJ.out.1 ?_ (hR := hR)
  clear hM HM0 hS
  intro wx hM
  refine wpList_then ⟨.inl (by kernel_rfl), wpAllT_drop (by kernel_rfl) (wpAll_done (by kernel_rfl) ?_)⟩
  go_wp2_with fail
  refine wp_region_allHB hM (by kernel_rfl) ?_
  clear hM
  intro wd hM
  have HM0 := Lib.hid hM
  have hS := Below.refl wd.heap.size wd
  refine wpAllH_takes [0, 1, 2, 4] (by kernel_rfl) (fun _ _ _ _ _ h => h) hS (by kernel_rfl) ?_
  simp only [pickOps, List.filterMap_cons, List.filterMap_nil, List.getElem?_cons_zero, List.getElem?_cons_succ]
  repeat ((with_reducible apply wpHeld_step); (· rfl); (· (intro wq hSw; first | (go_simp; rfl) | (have hM' := HM0.out.step hSw; first | exact yields_load (C := fun _ => True) (nqc hM') rfl | exact yields_load (C := fun _ => True) (nql hM') rfl | exact yields_load (C := fun _ => True) (nqp hM') rfl | fail))); intro K hK; go_simp; (with_reducible refine hK _ ?_); clear hK K)
  refine wpHeld_nil ?_
  refine wpAllH_takes [3, 5] (by kernel_rfl) (fun _ _ _ _ _ h => h) hS (by kernel_rfl) ?_
  simp only [pickOps, List.filterMap_cons, List.filterMap_nil, List.getElem?_cons_zero, List.getElem?_cons_succ]
  repeat ((with_reducible apply wpHeld_step); (· rfl); (· (intro wq hSw; first | (go_simp; rfl) | (have hM' := HM0.out.step hSw; first | exact yields_load (C := fun _ => True) (nqc hM') rfl | exact yields_load (C := fun _ => True) (nql hM') rfl | exact yields_load (C := fun _ => True) (nqp hM') rfl | fail))); intro K hK; go_simp; (with_reducible refine hK _ ?_); clear hK K)
  refine wpHeld_nil ?_
  refine wpAllH_takes [6] (by kernel_rfl) (fun _ _ _ _ _ h => h) hS (by kernel_rfl) ?_
  simp only [pickOps, List.filterMap_cons, List.filterMap_nil, List.getElem?_cons_zero, List.getElem?_cons_succ]
  repeat ((with_reducible apply wpHeld_step); (· rfl); (· (intro wq hSw; first | (go_simp; rfl) | (have hM' := HM0.out.step hSw; first | exact yields_load (C := fun _ => True) (nqc hM') rfl | exact yields_load (C := fun _ => True) (nql hM') rfl | exact yields_load (C := fun _ => True) (nqp hM') rfl | exact yml mty_bool hM' HJ.out.1 HJ.out.2.2 (hR := hR2)))); intro K hK; go_simp; (with_reducible refine hK _ ?_); clear hK K)
  refine wpHeld_nil ?_
  clear hS HM0
  refine wpAllH_done (by kernel_rfl) ?_
  go_wp2_with (first | ((with_reducible refine (HTX.out _ (HB.out _ hM.below) (HPW.out _ hM.below)).mono ?_); rintro e w1 ⟨A1, n1, c1, T, hT0, hT1, hT2, rfl, hb⟩; replace hM := hM.newThing hb; clear hb) | ((first | with_reducible refine at_load ?_ | ((with_reducible refine at_load_g ?_ ?_); (· rfl))); first | refine nll hM ?_ | refine nlc hM ?_ | refine nlp hM ?_) | ((with_reducible refine at_store ?_); first | (refine nlw hM ?_; clear hM; intro wx hM) | (refine nls hM ?_; clear hM; intro wx hM) | (refine nlt hM ?_; clear hM; intro wx hM)) | ((with_reducible refine at_alloc ?_); refine nlz hM ?_; clear hM; intro gx wx hM) | ((with_reducible refine at_box ?_); first | (refine nlb hM ?_; clear hM; intro gx wx hM) | (refine nlx hM ?_; clear hM; intro gx wx hM)))
  obtain ⟨hn1, hc1⟩ := gT_len (hM.thing _ (.head _))
  subst hn1
  obtain ⟨gT1, oT, rfl, _, _⟩ := gT_at cf_st (hM.thing _ (.head _)) hT0
  have hM2 := Mem.gNil hM 37 3 lnF
  clear hM
  have M0 := Lib.hid hM2
  clear hM2
  obtain ⟨m, hm⟩ : ∃ m, T.length = m := ⟨_, rfl⟩
  have HT := Lib.hid (And.intro hT0 (And.intro hT1 (And.intro hT2 hm)))
  rw [hm] at M0 ⊢
  clear hT0 hT1 hT2 hm hc1
  have hLd := hL
  go_loopw [6, 50] (fun a b wr => ∃ k : Nat, Hid (k ≤ m) ∧ b = .int .i64 (k : Nat) ∧ Mem [] w0 (⟨gi, 48, 36, stC j [.string nm, .string sj, .string bd, .int .i64 (date : Nat)]⟩ :: L) (lT a ((T.map fun x => (⟨date, nk, x⟩ : Ln)).take k) :: sT (.slice (some ⟨gT1, oT, none⟩) m c1) T :: FR (mapT mr (updM mpr j (some (.bool true))))) wr) (fun _ b _ => m - (intOf b).toNat)
  case atStart => exact ⟨0, Lib.hid (Nat.zero_le _), rfl, M0.out⟩
  case round =>
    clear M0
    obtain ⟨k, hk, rfl, hM⟩ := hrel
    have k0 : (0 : Int) ≤ (k : Int) := Int.natCast_nonneg _
    by_cases hlt : k < m
    · have hlt' : (k : Int) < (m : Int) := by omega
      have hkT : k < T.length := by have := HT.out.2.2.2; omega
      have HX := Lib.hid (show ∀ w', Mem [] w0 (⟨gi, 48, 36, stC j [.string nm, .string sj, .string bd, .int .i64 (date : Nat)]⟩ :: L) (lT u6 ((T.map fun x => (⟨date, nk, x⟩ : Ln)).take k) :: sT (.slice (some ⟨gT1, oT, none⟩) m c1) T :: FR (mapT mr (updM mpr j (some (.bool true))))) w' → w'.cell? ⟨gT1, oT + k, none⟩ = some (.string T[k]) from fun w' h => by
        obtain ⟨g2, o2, hA2, _, hc⟩ := gT_at cf_st (h.thing _ (.tail _ (.head _))) (by omega)
        injection hA2 with hA2
        injection hA2 with e1 e2
        subst e1 e2
        have := hc k hkT 0 (.string T[k]) rfl
        simpa using this)
      have hm50 : m ≤ 50 := by have := HT.out; omega
      have m50 : (m : Int) ≤ 50 := by omega
      have hl9 : ((T.map fun x => (⟨date, nk, x⟩ : Ln)).take k).length + 1 ≤ 1000000000 := by rw [List.length_take]; omega
      have HMK := Lib.hid (mk_take T (fun x => (⟨date, nk, x⟩ : Ln)) hkT)
      clear hm50
      go_upto_region 16 with (first | ((with_reducible refine at_load ?_); refine nlo (HX.out _ hM) ?_) | ((first | with_reducible refine at_load ?_ | ((with_reducible refine at_load_g ?_ ?_); (· rfl))); first | refine nll hM ?_ | refine nlc hM ?_ | refine nlp hM ?_) | ((with_reducible refine at_store ?_); first | (refine nlw hM ?_; clear hM; intro wx hM) | (refine nls hM ?_; clear hM; intro wx hM) | (refine nlt hM ?_; clear hM; intro wx hM)) | ((with_reducible refine at_alloc ?_); refine nlz hM ?_; clear hM; intro gx wx hM) | ((with_reducible refine at_box ?_); first | (refine nlb hM ?_; clear hM; intro gx wx hM) | (refine nlx hM ?_; clear hM; intro gx wx hM)))
      refine wp_region_allN hM (by kernel_rfl) ?_
      clear hM
      intro wd hM
      refine wpAll_takes [0, 1, 3, 4, 5, 7] (by kernel_rfl) (fun _ _ _ _ _ h => h) (by kernel_rfl) ?_
      simp only [pickOps, List.filterMap_cons, List.filterMap_nil, List.getElem?_cons_zero, List.getElem?_cons_succ]
      repeat ((with_reducible apply wpPure_step); (· rfl); (· (intro w; go_simp; rfl)); intro K hK; go_simp; (with_reducible refine hK _ ?_); clear hK K)
      refine wpPure_nil ?_
      refine wpAll_of_T (fun w' => Below wd.heap.size wd w') 10 ?_
      have hS := Below.refl wd.heap.size wd
      have HM0 := Lib.hid hM
      refine wpAllT_takes [2, 6] (by kernel_rfl) (fun _ _ _ _ _ h => h) hS (by kernel_rfl) ?_
      simp only [pickOps, List.filterMap_cons, List.filterMap_nil, List.getElem?_cons_zero, List.getElem?_cons_succ]
      repeat ((with_reducible apply wpHeld_step); (· rfl); (· (intro wq hSw; first | (go_simp; rfl) | (have hM' := HM0.out.step hSw; first | exact yields_load (C := fun _ => True) (nqc hM') rfl | exact yields_load (C := fun _ => True) (nql hM') rfl | exact yields_load (C := fun _ => True) (nqp hM') rfl | fail))); intro K hK; go_simp; (with_reducible refine hK _ ?_); clear hK K)
      refine wpHeld_nil ?_
      refine wpAllT_takes [8] (by kernel_rfl) (fun _ _ _ _ _ h => h) hS (by kernel_rfl) ?_
      simp only [pickOps, List.filterMap_cons, List.filterMap_nil, List.getElem?_cons_zero, List.getElem?_cons_succ]
      repeat ((with_reducible apply wpHeld_step); (· rfl); (· (intro wq hSw; first | (go_simp; rfl) | (have hM' := HM0.out.step hSw; first | exact yields_load (C := fun _ => True) (nqc hM') rfl | exact yields_load (C := fun _ => True) (nql hM') rfl | exact yields_load (C := fun _ => True) (nqp hM') rfl | fail))); intro K hK; go_simp; (with_reducible refine hK _ ?_); clear hK K)
      refine wpHeld_nil ?_
      refine wpAllT_one 9 rfl (by kernel_rfl) ?_
      refine gbs (Mem.start [] _) rt_ln (cs := #[.int .i64 (date : Nat), .string nk, .string T[k]]) rfl rfl (by decide) ?_
      intro gb wb hF
      replace hM := hM.frame hF
      simp only [List.cons_append, List.nil_append] at hM
      replace hS := Below.step hS hF.below
      clear hF
      refine wpList_then ⟨.inr hS, ?_⟩
      refine wpAllT_one 10 rfl (by kernel_rfl) ?_
      refine gap (l := (T.map fun x => (⟨date, nk, x⟩ : Ln)).take k) hM rt_ln (ent_src (x := ⟨date, nk, T[k]⟩) hM rt_ln rfl (List.Mem.head _)) hl9 ?_
      clear hM hS HM0
      intro A2 N2 c2 wz HNN hM
      refine wpList_then ⟨.inl (by kernel_rfl), wpAllT_drop (by kernel_rfl) ?_⟩
      go_simp
      refine wpAll_takes [11] (by kernel_rfl) (fun _ _ _ _ _ h => h) (by kernel_rfl) ?_
      simp only [pickOps, List.filterMap_cons, List.filterMap_nil, List.getElem?_cons_zero, List.getElem?_cons_succ]
      repeat ((with_reducible apply wpPure_step); (· rfl); (· (intro w; go_simp; rfl)); intro K hK; go_simp; (with_reducible refine hK _ ?_); clear hK K)
      refine wpPure_nil ?_
      refine wpAll_done (by kernel_rfl) ?_
      go_wp2_with fail
      refine ⟨⟨k + 1, Lib.hid (by omega), by go_num, ?_⟩, by simp [intOf]; omega⟩
      rw [← HMK.out]
      exact hM.subL (List.sublist_cons_self _ _)
    · have hkm : k = m := by have := hk.out; omega
      subst hkm
      have htk : (T.map fun x => (⟨date, nk, x⟩ : Ln)).take k = T.map fun x => (⟨date, nk, x⟩ : Ln) := List.take_of_length_le (by rw [List.length_map]; have := HT.out; omega)
      rw [htk] at hM
      obtain ⟨A, c, hA, _⟩ := gT_form (hM.thing _ (.head _))
      subst hA
      clear hlt hk htk
      go_wp2_with fail
      go_ret2
      refine ⟨A, _, c, T, HT.out.1, HT.out.2.1, HT.out.2.2.1, rfl, ?_⟩
      have h1 := hM.subL (List.sublist_cons_self _ _)
      exact h1.subR (.cons_cons _ (List.sublist_cons_self _ _))
end
end Go.Proofs.YtlidpdjainmaiaaGreatDoor
