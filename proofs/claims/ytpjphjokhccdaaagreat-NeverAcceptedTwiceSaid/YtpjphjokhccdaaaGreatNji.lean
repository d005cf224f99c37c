/- Seat n: newPlanner. -/
import Derived.Test.YtpjphjokhccdaaaGreatNjh
namespace Go.Bul
open Go Go.RowKit Go.Thg
theorem wp_region_allN {P : Program} {Q : Exit → Act → World → Prop} {w w0 : World} {G : List Nat} {L : List Ent} {R : List Thing} (hM : Mem G w0 L R w) {id : Nat} {a : Act} {l : List Oper} (hm : P.follows .mixedOrders = true)
    (h : ∀ wd, Mem G w0 L R wd → wpAll P l.toArray Q (Array.replicate l.toArray.size false) a wd) : (Code.region id l.toArray true).wp P Q a w :=
  wp_region_all hm (h _ hM.drew)
end Go.Bul
namespace Go.Proofs.YtpjphjokhccdaaaGreat
open Go Go.RowKit Go.Bul Go.Thg Go.Lin Go.Maps
section
variable {w w0 : World} {G : List Nat} {L : List Ent} {R : List Thing} {F : Thing → List Thing}
/-- The candidates made from articles. -/
structure CandL (R : List Thing) (cl l : List El) : Prop where
  ids : cl.map (·.1) = l.map (·.1)
  ok : ∀ x ∈ cl, CandOk R x
set_option maxRecDepth 20000 in
set_option maxHeartbeats 20000000 in
theorem newPl_any (gr gp ge off c gq oq d : Nat) (lo hi now bud : Int) (A : Option Addr) (n cc : Nat) (l : List El) (h0 : 0 ≤ lo) (h1 : 0 ≤ hi) (hl : l.length ≤ 11) (hok : ∀ x ∈ l, ArtOk R x) (hM : Mem G w0 L R w)
    (hL : ⟨gr, 33, 3, ruleC lo hi⟩ ∈ L) (hp : ⟨gp, 128, 2, patC starB ge off c⟩ ∈ L) (hE : eleT (some ⟨ge, off, none⟩) c ∈ R) (hQ : patsT (some ⟨gq, oq, none⟩) d gp ∈ R) (hT : elT 51 7 (.slice A n cc) l ∈ R) :
    Calls Tryz.prog 28 #[.agg (rulesC gr (some ⟨gq, oq, none⟩) d), .slice A n cc, .int .i64 now, .int .i64 bud] w fun e w' => ∃ pp bh B m e' cl byt, e = .returned (.pointer (some ⟨pp, 0, none⟩)) ∧ (0 ≤ byt ∧ byt ≤ 1100) ∧ (cl.map (·.1)).Perm (l.map (·.1)) ∧ (∀ x ∈ cl, CandOk R x) ∧
      Mem G w0 (⟨pp, 108, 4, plC B m e' bh byt bud⟩ :: L) (elT 113 10 (.slice B m e') cl :: mapT bh (mpS (l.map (·.1))) :: R) w' := by
  have hn := (elT_len (hM.thing _ hT)).1
  have HN := Lib.hid hn
  have HT := Lib.hid hT
  have HOK := Lib.hid hok
  have HL := Lib.hid hL
  have HP := Lib.hid hp
  have HDY := Lib.hid (fun (L : List Ent) (R' : List Thing) (w : World) (j : Nat) (da ar : Int) (gg : Nat) (b k : Int) (hM : Mem G w0 L R' w) (hL : (⟨gr, 33, 3, ruleC lo hi⟩ : Ent) ∈ L) (hp : (⟨gp, 128, 2, patC starB ge off c⟩ : Ent) ∈ L) (hs : ∀ x ∈ R, x ∈ R') (hG : grpT gg ∈ R) => days_any gr gp ge off c gq oq d lo hi j da ar gg b k h0 h1 hM hL hp (hs _ hE) (hs _ hQ) (hs _ hG))
  have HPE := Lib.hid (fun k w => perm_any k w)
  have HHO := Lib.hid (fun j d a gg b k w => holds_any j d a gg b k w)
  have HLH := Lib.hid (fun j d a gg b k w => lasth_any j d a gg b k w)
  have n11 : n ≤ 11 := by omega
  clear hok hT hl hn hL hp hE hQ
  go_enter Tryz.func28, Tryz.ntmps28
  go_wp2_with (first | ((with_reducible refine at_mmake ?_); refine nmm hM ?_; clear hM; intro bh w1 hM) | ((with_reducible refine at_build ?_); refine wpList_build_run rfl _ _ rfl _ rfl _ (run_plan bh bud _) ?_) | ((first | with_reducible refine at_load ?_ | ((with_reducible refine at_load_g ?_ ?_); (· rfl))); first | refine nll hM ?_ | refine nlc hM ?_ | refine nlp hM ?_) | ((with_reducible refine at_store ?_); first | (refine nlw hM ?_; clear hM; intro wx hM) | (refine nls hM ?_; clear hM; intro wx hM) | (refine nlt hM ?_; clear hM; intro wx hM)) | ((with_reducible refine at_alloc ?_); refine nlz hM ?_; clear hM; intro gx wx hM) | ((with_reducible refine at_box ?_); first | (refine nlb hM ?_; clear hM; intro gx wx hM) | (refine nlx hM ?_; clear hM; intro gx wx hM)))
  obtain ⟨pp, hpp⟩ := hM.name1
  subst hpp
  have M0 := Lib.hid (Mem.elNil hM 113 10)
  clear hM
  go_loopw [20] (fun i wr => ∃ k : Nat, k ≤ n ∧ i = .int .i64 (k : Nat) ∧ ∃ B m e' cl byt, Hid (CandL R cl (l.take k) ∧ m = cl.length ∧ 0 ≤ byt ∧ byt ≤ 100 * (k : Int)) ∧ Mem G w0 (⟨pp, 108, 4, plC B m e' bh byt bud⟩ :: ⟨gx, 77, 2, rulesC gr (some ⟨gq, oq, none⟩) d⟩ :: L) (elT 113 10 (.slice B m e') cl :: mapT bh (mpS ((l.take k).map (·.1))) :: R) wr) (fun i _ => n - (intOf i).toNat)
  case atStart => exact ⟨0, Nat.zero_le _, rfl, none, 0, 0, [], 0, Lib.hid ⟨⟨by rw [List.take_zero], fun x hx => by cases hx⟩, rfl, by omega, by omega⟩, by rw [List.take_zero, List.map_nil, mpS_nil]; exact M0.out⟩
  case round =>
    clear M0
    obtain ⟨k, hk, rfl, B, m, e', cl, byt, hc, hM⟩ := hrel
    have k0 : (0 : Int) ≤ (k : Int) := Int.natCast_nonneg _
    have k1 : (k : Int) ≤ 11 := by omega
    by_cases hlt : k < n
    · have hlt' : (k : Int) < (n : Int) := by omega
      have hkl : k < l.length := by have := HN.out; omega
      obtain ⟨g, off', rfl, _, hcell⟩ := elT_at (hM.thing _ (List.Mem.tail _ (List.Mem.tail _ HT.out))) k hkl
      have HX := Lib.hid (hcell k hkl)
      have HXI := List.getElem_mem hkl
      obtain ⟨hj, da, ar, gg, b, kk, htl, ⟨d0, d1⟩, ⟨a0, a1⟩, ⟨b0, b1⟩, ⟨q0, q1⟩, hg⟩ := HOK.out _ HXI
      have HTK := Lib.hid (show (l.take (k + 1)).map (·.1) = (l.take k).map (·.1) ++ [(l[k]).1] by rw [List.take_succ_eq_append_getElem hkl, List.map_append]; rfl)
      have HJ := Lib.hid hj
      have HG := Lib.hid hg
      have e : elC l[k] = stC (l[k]).1 (artTl da ar gg b kk) := by unfold elC; rw [htl]
      rw [e] at HX
      clear HXI htl hj e hcell hg
      generalize (l[k]).1 = j at HX HTK HJ
      clear hkl
      have HB := Lib.hid (show 0 ≤ b ∧ b ≤ 100 from ⟨b0, b1⟩)
      have y0 : 0 ≤ byt := hc.out.2.2.1
      have y1 : byt ≤ 1100 := by have := hc.out.2.2.2; omega
      have HW := Lib.hid (show IntKind.i64.wrap (byt + b) = byt + b from IntWalk.i64_in _ ⟨by omega, by omega⟩)
      clear y0 y1 b0 b1
      clear d0 d1 a0 a1 q0 q1
      go_upto_region 6 with (first | ((with_reducible refine at_load ?_); first | refine nlr HX.out ?_ (hty := row_artc) | refine nll hM ?_) | ((with_reducible refine (HDY.out _ _ _ _ _ _ _ _ _ hM (List.Mem.tail _ (List.Mem.tail _ (List.Mem.tail _ HL.out))) (List.Mem.tail _ (List.Mem.tail _ (List.Mem.tail _ HP.out))) (fun _ h => List.Mem.tail _ (List.Mem.tail _ h)) HG.out).mono ?_); rintro e w1 ⟨rfl, hM1⟩; clear hM; have hM := hM1; clear hM1) | ((first | with_reducible refine at_load ?_ | ((with_reducible refine at_load_g ?_ ?_); (· rfl))); first | refine nll hM ?_ | refine nlc hM ?_ | refine nlp hM ?_) | ((with_reducible refine at_store ?_); first | (refine nlw hM ?_; clear hM; intro wx hM) | (refine nls hM ?_; clear hM; intro wx hM) | (refine nlt hM ?_; clear hM; intro wx hM)) | ((with_reducible refine at_alloc ?_); refine nlz hM ?_; clear hM; intro gx wx hM) | ((with_reducible refine at_box ?_); first | (refine nlb hM ?_; clear hM; intro gx wx hM) | (refine nlx hM ?_; clear hM; intro gx wx hM)))
      have hcl11 : cl.length ≤ 11 := by
        have h1 := congrArg List.length hc.out.1.ids
        rw [List.length_map, List.length_map, List.length_take] at h1
        omega
      refine wp_region_allN hM (by kernel_rfl) ?_
      clear hM
      intro wd hM
      refine wpAll_takes [0, 1, 2, 3, 6, 19, 20, 22, 23, 26, 27, 29, 30] (by kernel_rfl) (fun _ _ _ _ _ h => h) (by kernel_rfl) ?_
      simp only [pickOps, List.filterMap_cons, List.filterMap_nil, List.getElem?_cons_zero, List.getElem?_cons_succ]
      repeat ((with_reducible apply wpPure_step); (· rfl); (· (intro w; go_simp; rfl)); intro K hK; go_simp; (with_reducible refine hK _ ?_); clear hK K)
      refine wpPure_nil ?_
      refine wpAll_of_T (fun w' => Below wd.heap.size wd w') 35 ?_
      have hS := Below.refl wd.heap.size wd
      have HM0 := Lib.hid hM
      refine wpAllT_takes [4, 5, 7, 21, 24, 25, 28, 31, 32] (by kernel_rfl) (fun _ _ _ _ _ h => h) hS (by kernel_rfl) ?_
      simp only [pickOps, List.filterMap_cons, List.filterMap_nil, List.getElem?_cons_zero, List.getElem?_cons_succ]
      repeat ((with_reducible apply wpHeld_step); (· rfl); (· (intro wq hSw; first | (go_simp; rfl) | (have hM' := HM0.out.step hSw; first | exact yields_load (C := fun _ => True) (nqc hM') rfl | exact yields_load (C := fun _ => True) (nql hM') rfl | exact yields_load (C := fun _ => True) (nqp hM') rfl | fail))); intro K hK; go_simp; (with_reducible refine hK _ ?_); clear hK K)
      refine wpHeld_nil ?_
      refine wpAllT_one 8 rfl (by kernel_rfl) ?_
      go_wp2_with fail
      refine (HPE.out _ _).mono ?_
      rintro e w1 ⟨⟨f1, rfl⟩, rfl⟩
      go_wp2_with fail
      refine then_normal ⟨.inr hS, ?_⟩
      cases f1 with
      | true =>
        refine wpAllT_takes [9, 10, 11, 12, 13, 14, 15, 16, 17, 18] (by kernel_rfl) (fun _ _ _ _ _ h => h) hS (by kernel_rfl) ?_
        simp only [pickOps, List.filterMap_cons, List.filterMap_nil, List.getElem?_cons_zero, List.getElem?_cons_succ]
        repeat (first | ((with_reducible apply wpHeld_stepG); (· rfl); (· (intro wq hSw; first | (go_simp; rfl) | (have hM' := HM0.out.step hSw; first | exact yields_load (C := fun _ => True) (nqc hM') rfl | exact yields_load (C := fun _ => True) (nql hM') rfl | exact yields_load (C := fun _ => True) (nqp hM') rfl | fail))); intro K hK; go_simp; (with_reducible refine hK _ ?_); clear hK K) | ((with_reducible apply wpHeld_stepU); (· rfl); intro K hK; go_simp; (with_reducible refine hK _ ?_); clear hK K))
        refine wpHeld_nil ?_
        refine wpAllT_takes [33] (by kernel_rfl) (fun _ _ _ _ _ h => h) hS (by kernel_rfl) ?_
        simp only [pickOps, List.filterMap_cons, List.filterMap_nil, List.getElem?_cons_zero, List.getElem?_cons_succ]
        (with_reducible apply wpHeld_step); (· rfl); (· (intro wq hSw; exact yb_cand)); intro K hK; go_simp; (with_reducible refine hK _ ?_); clear hK K
        refine wpHeld_nil ?_
        refine wpAllT_one 34 rfl (by kernel_rfl) ?_
        refine nbs (Mem.start [] _) ely_cand ?_
        intro gb wb hF
        replace hM := hM.frame hF
        simp only [List.cons_append, List.nil_append] at hM
        replace hS := Below.step hS hF.below
        clear hF
        refine wpList_then ⟨.inr hS, ?_⟩
        refine wpAllT_one 35 rfl (by kernel_rfl) ?_
        refine nap (l := cl) hM ely_cand (by have := hcl11; omega) ?_
        clear hM hS HM0
        intro A' N' c' wz HNN hM
        refine wpList_then ⟨.inl (by kernel_rfl), wpAllT_drop (by kernel_rfl) ?_⟩
        refine wpAll_takes [36, 37] (by kernel_rfl) (fun _ _ _ _ _ h => h) (by kernel_rfl) ?_
        simp only [pickOps, List.filterMap_cons, List.filterMap_nil, List.getElem?_cons_zero, List.getElem?_cons_succ]
        repeat ((with_reducible apply wpPure_step); (· rfl); (· (intro w; go_simp; rfl)); intro K hK; go_simp; (with_reducible refine hK _ ?_); clear hK K)
        refine wpPure_nil ?_
        refine wpAll_one 38 rfl (by kernel_rfl) ?_
        refine nls hM ?_
        clear hM
        intro wx hM
        refine wpList_then (wpAll_done (by kernel_rfl) ?_)
        go_upto_region 7 with fail
        refine wp_region_allB hM 6 (by kernel_rfl) ?_
        clear hM
        intro wd hM
        have HM0 := Lib.hid hM
        have hS := Below.refl wd.heap.size wd
        refine wpAllT_takes [0, 1, 2, 4, 3, 5] (by kernel_rfl) (fun _ _ _ _ _ h => h) hS (by kernel_rfl) ?_
        simp only [pickOps, List.filterMap_cons, List.filterMap_nil, List.getElem?_cons_zero, List.getElem?_cons_succ]
        repeat ((with_reducible apply wpHeld_step); (· rfl); (· (intro wq hSw; first | (go_simp; rfl) | (have hM' := HM0.out.step hSw; first | exact yields_load (C := fun _ => True) (nqc hM') rfl | exact yields_load (C := fun _ => True) (nql hM') rfl | exact yields_load (C := fun _ => True) (nqp hM') rfl | fail))); intro K hK; go_simp; (with_reducible refine hK _ ?_); clear hK K)
        refine wpHeld_nil ?_
        refine wpAllT_one 6 rfl (by kernel_rfl) ?_
        refine nmu hM mty_bool HJ.out ?_ (v := .bool true)
        clear hM HM0 hS
        intro wx hM
        refine wpList_then ⟨.inl (by kernel_rfl), wpAllT_drop (by kernel_rfl) (wpAll_done (by kernel_rfl) ?_)⟩
        go_upto_region 8 with fail
        refine wp_region_allB hM 9 (by kernel_rfl) ?_
        clear hM
        intro wd hM
        have HM0 := Lib.hid hM
        have hS := Below.refl wd.heap.size wd
        refine wpAllT_takes [0, 1, 2, 4, 3, 5, 6, 7, 8] (by kernel_rfl) (fun _ _ _ _ _ h => h) hS (by kernel_rfl) ?_
        simp only [pickOps, List.filterMap_cons, List.filterMap_nil, List.getElem?_cons_zero, List.getElem?_cons_succ]
        repeat ((with_reducible apply wpHeld_step); (· rfl); (· (intro wq hSw; first | (go_simp; rfl) | (have hM' := HM0.out.step hSw; first | exact yields_load (C := fun _ => True) (nqc hM') rfl | exact yields_load (C := fun _ => True) (nql hM') rfl | exact yields_load (C := fun _ => True) (nqp hM') rfl | fail))); intro K hK; go_simp; (with_reducible refine hK _ ?_); clear hK K)
        refine wpHeld_nil ?_
        refine wpAllT_one 9 rfl (by kernel_rfl) ?_
        refine nls hM ?_
        clear hM HM0 hS
        intro wx hM
        refine wpList_then ⟨.inl (by kernel_rfl), wpAllT_drop (by kernel_rfl) (wpAll_done (by kernel_rfl) ?_)⟩
        go_wp2_with fail
        rw [HW.out, mpS_put, ← HTK.out] at hM
        exact ⟨⟨k + 1, by omega, by go_num, A', N', c', _, byt + b, Lib.hid ⟨⟨by rw [List.map_append, hc.out.1.ids, HTK.out]; rfl, fun x hx => (List.mem_append.1 hx).elim (hc.out.1.ok x) fun hx => by obtain rfl := List.mem_singleton.1 hx; exact ⟨HJ.out, _, _, _, _, _, _, _, _, rfl, HB.out, HG.out⟩⟩, by rw [HNN.out, List.length_append]; rfl, by have := HB.out; have := hc.out.2.2.1; omega, by have := HB.out; have := hc.out.2.2.2; omega⟩, hM.subL (by repeat (first | exact List.Sublist.refl _ | exact List.nil_sublist _ | apply List.Sublist.cons_cons | apply List.Sublist.cons))⟩, by simp [intOf]; omega⟩
      | false =>
        refine wpAllT_takes [9, 10] (by kernel_rfl) (fun _ _ _ _ _ h => h) hS (by kernel_rfl) ?_
        simp only [pickOps, List.filterMap_cons, List.filterMap_nil, List.getElem?_cons_zero, List.getElem?_cons_succ]
        repeat (first | ((with_reducible apply wpHeld_stepG); (· rfl); (· (intro wq hSw; first | (go_simp; rfl) | (have hM' := HM0.out.step hSw; first | exact yields_load (C := fun _ => True) (nqc hM') rfl | exact yields_load (C := fun _ => True) (nql hM') rfl | exact yields_load (C := fun _ => True) (nqp hM') rfl | fail))); intro K hK; go_simp; (with_reducible refine hK _ ?_); clear hK K) | ((with_reducible apply wpHeld_stepU); (· rfl); intro K hK; go_simp; (with_reducible refine hK _ ?_); clear hK K))
        refine wpHeld_nil ?_
        refine wpAllT_one 11 rfl (by kernel_rfl) ?_
        refine wpList_wanted rfl ?_
        go_wp2_with fail
        refine (HHO.out _ _ _ _ _ _ _).mono ?_
        rintro e w1 ⟨⟨f2, rfl⟩, hb⟩
        go_wp2_with fail
        replace hM := hM.step hb
        replace hS := Below.step hS hb
        clear hb
        refine then_normal ⟨.inr hS, ?_⟩
        cases f2 with
        | true =>
          refine wpAllT_takes [12, 13, 14] (by kernel_rfl) (fun _ _ _ _ _ h => h) hS (by kernel_rfl) ?_
          simp only [pickOps, List.filterMap_cons, List.filterMap_nil, List.getElem?_cons_zero, List.getElem?_cons_succ]
          repeat (first | ((with_reducible apply wpHeld_stepG); (· rfl); (· (intro wq hSw; first | (go_simp; rfl) | (have hM' := HM0.out.step hSw; first | exact yields_load (C := fun _ => True) (nqc hM') rfl | exact yields_load (C := fun _ => True) (nql hM') rfl | exact yields_load (C := fun _ => True) (nqp hM') rfl | fail))); intro K hK; go_simp; (with_reducible refine hK _ ?_); clear hK K) | ((with_reducible apply wpHeld_stepU); (· rfl); intro K hK; go_simp; (with_reducible refine hK _ ?_); clear hK K))
          refine wpHeld_nil ?_
          refine wpAllT_one 15 rfl (by kernel_rfl) ?_
          refine wpList_wanted rfl ?_
          go_wp2_with fail
          refine (HLH.out _ _ _ _ _ _ _).mono ?_
          rintro e w2 ⟨⟨f3, rfl⟩, hb⟩
          go_wp2_with fail
          replace hM := hM.step hb
          replace hS := Below.step hS hb
          clear hb
          refine then_normal ⟨.inr hS, ?_⟩
          refine wpAllT_takes [16, 17, 18] (by kernel_rfl) (fun _ _ _ _ _ h => h) hS (by kernel_rfl) ?_
          simp only [pickOps, List.filterMap_cons, List.filterMap_nil, List.getElem?_cons_zero, List.getElem?_cons_succ]
          repeat (first | ((with_reducible apply wpHeld_stepG); (· rfl); (· (intro wq hSw; first | (go_simp; rfl) | (have hM' := HM0.out.step hSw; first | exact yields_load (C := fun _ => True) (nqc hM') rfl | exact yields_load (C := fun _ => True) (nql hM') rfl | exact yields_load (C := fun _ => True) (nqp hM') rfl | fail))); intro K hK; go_simp; (with_reducible refine hK _ ?_); clear hK K) | ((with_reducible apply wpHeld_stepU); (· rfl); intro K hK; go_simp; (with_reducible refine hK _ ?_); clear hK K))
          refine wpHeld_nil ?_
          refine wpAllT_takes [33] (by kernel_rfl) (fun _ _ _ _ _ h => h) hS (by kernel_rfl) ?_
          simp only [pickOps, List.filterMap_cons, List.filterMap_nil, List.getElem?_cons_zero, List.getElem?_cons_succ]
          (with_reducible apply wpHeld_step); (· rfl); (· (intro wq hSw; exact yb_cand)); intro K hK; go_simp; (with_reducible refine hK _ ?_); clear hK K
          refine wpHeld_nil ?_
          refine wpAllT_one 34 rfl (by kernel_rfl) ?_
          refine nbs (Mem.start [] _) ely_cand ?_
          intro gb wb hF
          replace hM := hM.frame hF
          simp only [List.cons_append, List.nil_append] at hM
          replace hS := Below.step hS hF.below
          clear hF
          refine wpList_then ⟨.inr hS, ?_⟩
          refine wpAllT_one 35 rfl (by kernel_rfl) ?_
          refine nap (l := cl) hM ely_cand (by have := hcl11; omega) ?_
          clear hM hS HM0
          intro A' N' c' wz HNN hM
          refine wpList_then ⟨.inl (by kernel_rfl), wpAllT_drop (by kernel_rfl) ?_⟩
          refine wpAll_takes [36, 37] (by kernel_rfl) (fun _ _ _ _ _ h => h) (by kernel_rfl) ?_
          simp only [pickOps, List.filterMap_cons, List.filterMap_nil, List.getElem?_cons_zero, List.getElem?_cons_succ]
          repeat ((with_reducible apply wpPure_step); (· rfl); (· (intro w; go_simp; rfl)); intro K hK; go_simp; (with_reducible refine hK _ ?_); clear hK K)
          refine wpPure_nil ?_
          refine wpAll_one 38 rfl (by kernel_rfl) ?_
          refine nls hM ?_
          clear hM
          intro wx hM
          refine wpList_then (wpAll_done (by kernel_rfl) ?_)
          go_upto_region 7 with fail
          refine wp_region_allB hM 6 (by kernel_rfl) ?_
          clear hM
          intro wd hM
          have HM0 := Lib.hid hM
          have hS := Below.refl wd.heap.size wd
          refine wpAllT_takes [0, 1, 2, 4, 3, 5] (by kernel_rfl) (fun _ _ _ _ _ h => h) hS (by kernel_rfl) ?_
          simp only [pickOps, List.filterMap_cons, List.filterMap_nil, List.getElem?_cons_zero, List.getElem?_cons_succ]
          repeat ((with_reducible apply wpHeld_step); (· rfl); (· (intro wq hSw; first | (go_simp; rfl) | (have hM' := HM0.out.step hSw; first | exact yields_load (C := fun _ => True) (nqc hM') rfl | exact yields_load (C := fun _ => True) (nql hM') rfl | exact yields_load (C := fun _ => True) (nqp hM') rfl | fail))); intro K hK; go_simp; (with_reducible refine hK _ ?_); clear hK K)
          refine wpHeld_nil ?_
          refine wpAllT_one 6 rfl (by kernel_rfl) ?_
          refine nmu hM mty_bool HJ.out ?_ (v := .bool true)
          clear hM HM0 hS
          intro wx hM
          refine wpList_then ⟨.inl (by kernel_rfl), wpAllT_drop (by kernel_rfl) (wpAll_done (by kernel_rfl) ?_)⟩
          go_upto_region 8 with fail
          refine wp_region_allB hM 9 (by kernel_rfl) ?_
          clear hM
          intro wd hM
          have HM0 := Lib.hid hM
          have hS := Below.refl wd.heap.size wd
          refine wpAllT_takes [0, 1, 2, 4, 3, 5, 6, 7, 8] (by kernel_rfl) (fun _ _ _ _ _ h => h) hS (by kernel_rfl) ?_
          simp only [pickOps, List.filterMap_cons, List.filterMap_nil, List.getElem?_cons_zero, List.getElem?_cons_succ]
          repeat ((with_reducible apply wpHeld_step); (· rfl); (· (intro wq hSw; first | (go_simp; rfl) | (have hM' := HM0.out.step hSw; first | exact yields_load (C := fun _ => True) (nqc hM') rfl | exact yields_load (C := fun _ => True) (nql hM') rfl | exact yields_load (C := fun _ => True) (nqp hM') rfl | fail))); intro K hK; go_simp; (with_reducible refine hK _ ?_); clear hK K)
          refine wpHeld_nil ?_
          refine wpAllT_one 9 rfl (by kernel_rfl) ?_
          refine nls hM ?_
          clear hM HM0 hS
          intro wx hM
          refine wpList_then ⟨.inl (by kernel_rfl), wpAllT_drop (by kernel_rfl) (wpAll_done (by kernel_rfl) ?_)⟩
          go_wp2_with fail
          rw [HW.out, mpS_put, ← HTK.out] at hM
          exact ⟨⟨k + 1, by omega, by go_num, A', N', c', _, byt + b, Lib.hid ⟨⟨by rw [List.map_append, hc.out.1.ids, HTK.out]; rfl, fun x hx => (List.mem_append.1 hx).elim (hc.out.1.ok x) fun hx => by obtain rfl := List.mem_singleton.1 hx; exact ⟨HJ.out, _, _, _, _, _, _, _, _, rfl, HB.out, HG.out⟩⟩, by rw [HNN.out, List.length_append]; rfl, by have := HB.out; have := hc.out.2.2.1; omega, by have := HB.out; have := hc.out.2.2.2; omega⟩, hM.subL (by repeat (first | exact List.Sublist.refl _ | exact List.nil_sublist _ | apply List.Sublist.cons_cons | apply List.Sublist.cons))⟩, by simp [intOf]; omega⟩
        | false =>
          refine wpAllT_takes [12, 13, 14, 15, 16, 17, 18] (by kernel_rfl) (fun _ _ _ _ _ h => h) hS (by kernel_rfl) ?_
          simp only [pickOps, List.filterMap_cons, List.filterMap_nil, List.getElem?_cons_zero, List.getElem?_cons_succ]
          repeat (first | ((with_reducible apply wpHeld_stepG); (· rfl); (· (intro wq hSw; first | (go_simp; rfl) | (have hM' := HM0.out.step hSw; first | exact yields_load (C := fun _ => True) (nqc hM') rfl | exact yields_load (C := fun _ => True) (nql hM') rfl | exact yields_load (C := fun _ => True) (nqp hM') rfl | fail))); intro K hK; go_simp; (with_reducible refine hK _ ?_); clear hK K) | ((with_reducible apply wpHeld_stepU); (· rfl); intro K hK; go_simp; (with_reducible refine hK _ ?_); clear hK K))
          refine wpHeld_nil ?_
          refine wpAllT_takes [33] (by kernel_rfl) (fun _ _ _ _ _ h => h) hS (by kernel_rfl) ?_
          simp only [pickOps, List.filterMap_cons, List.filterMap_nil, List.getElem?_cons_zero, List.getElem?_cons_succ]
          (with_reducible apply wpHeld_step); (· rfl); (· (intro wq hSw; exact yb_cand)); intro K hK; go_simp; (with_reducible refine hK _ ?_); clear hK K
          refine wpHeld_nil ?_
          refine wpAllT_one 34 rfl (by kernel_rfl) ?_
          refine nbs (Mem.start [] _) ely_cand ?_
          intro gb wb hF
          replace hM := hM.frame hF
          simp only [List.cons_append, List.nil_append] at hM
          replace hS := Below.step hS hF.below
          clear hF
          refine wpList_then ⟨.inr hS, ?_⟩
          refine wpAllT_one 35 rfl (by kernel_rfl) ?_
          refine nap (l := cl) hM ely_cand (by have := hcl11; omega) ?_
          clear hM hS HM0
          intro A' N' c' wz HNN hM
          refine wpList_then ⟨.inl (by kernel_rfl), wpAllT_drop (by kernel_rfl) ?_⟩
          refine wpAll_takes [36, 37] (by kernel_rfl) (fun _ _ _ _ _ h => h) (by kernel_rfl) ?_
          simp only [pickOps, List.filterMap_cons, List.filterMap_nil, List.getElem?_cons_zero, List.getElem?_cons_succ]
          repeat ((with_reducible apply wpPure_step); (· rfl); (· (intro w; go_simp; rfl)); intro K hK; go_simp; (with_reducible refine hK _ ?_); clear hK K)
          refine wpPure_nil ?_
          refine wpAll_one 38 rfl (by kernel_rfl) ?_
          refine nls hM ?_
          clear hM
          intro wx hM
          refine wpList_then (wpAll_done (by kernel_rfl) ?_)
          go_upto_region 7 with fail
          refine wp_region_allB hM 6 (by kernel_rfl) ?_
          clear hM
          intro wd hM
          have HM0 := Lib.hid hM
          have hS := Below.refl wd.heap.size wd
          refine wpAllT_takes [0, 1, 2, 4, 3, 5] (by kernel_rfl) (fun _ _ _ _ _ h => h) hS (by kernel_rfl) ?_
          simp only [pickOps, List.filterMap_cons, List.filterMap_nil, List.getElem?_cons_zero, List.getElem?_cons_succ]
          repeat ((with_reducible apply wpHeld_step); (· rfl); (· (intro wq hSw; first | (go_simp; rfl) | (have hM' := HM0.out.step hSw; first | exact yields_load (C := fun _ => True) (nqc hM') rfl | exact yields_load (C := fun _ => True) (nql hM') rfl | exact yields_load (C := fun _ => True) (nqp hM') rfl | fail))); intro K hK; go_simp; (with_reducible refine hK _ ?_); clear hK K)
          refine wpHeld_nil ?_
          refine wpAllT_one 6 rfl (by kernel_rfl) ?_
          refine nmu hM mty_bool HJ.out ?_ (v := .bool true)
          clear hM HM0 hS
          intro wx hM
          refine wpList_then ⟨.inl (by kernel_rfl), wpAllT_drop (by kernel_rfl) (wpAll_done (by kernel_rfl) ?_)⟩
          go_upto_region 8 with fail
          refine wp_region_allB hM 9 (by kernel_rfl) ?_
          clear hM
          intro wd hM
          have HM0 := Lib.hid hM
          have hS := Below.refl wd.heap.size wd
          refine wpAllT_takes [0, 1, 2, 4, 3, 5, 6, 7, 8] (by kernel_rfl) (fun _ _ _ _ _ h => h) hS (by kernel_rfl) ?_
          simp only [pickOps, List.filterMap_cons, List.filterMap_nil, List.getElem?_cons_zero, List.getElem?_cons_succ]
          repeat ((with_reducible apply wpHeld_step); (· rfl); (· (intro wq hSw; first | (go_simp; rfl) | (have hM' := HM0.out.step hSw; first | exact yields_load (C := fun _ => True) (nqc hM') rfl | exact yields_load (C := fun _ => True) (nql hM') rfl | exact yields_load (C := fun _ => True) (nqp hM') rfl | fail))); intro K hK; go_simp; (with_reducible refine hK _ ?_); clear hK K)
          refine wpHeld_nil ?_
          refine wpAllT_one 9 rfl (by kernel_rfl) ?_
          refine nls hM ?_
          clear hM HM0 hS
          intro wx hM
          refine wpList_then ⟨.inl (by kernel_rfl), wpAllT_drop (by kernel_rfl) (wpAll_done (by kernel_rfl) ?_)⟩
          go_wp2_with fail
          rw [HW.out, mpS_put, ← HTK.out] at hM
          exact ⟨⟨k + 1, by omega, by go_num, A', N', c', _, byt + b, Lib.hid ⟨⟨by rw [List.map_append, hc.out.1.ids, HTK.out]; rfl, fun x hx => (List.mem_append.1 hx).elim (hc.out.1.ok x) fun hx => by obtain rfl := List.mem_singleton.1 hx; exact ⟨HJ.out, _, _, _, _, _, _, _, _, rfl, HB.out, HG.out⟩⟩, by rw [HNN.out, List.length_append]; rfl, by have := HB.out; have := hc.out.2.2.1; omega, by have := HB.out; have := hc.out.2.2.2; omega⟩, hM.subL (by repeat (first | exact List.Sublist.refl _ | exact List.nil_sublist _ | apply List.Sublist.cons_cons | apply List.Sublist.cons))⟩, by simp [intOf]; omega⟩
    · obtain rfl : k = n := by omega
      have htk : l.take k = l := List.take_of_length_le (by have := HN.out; omega)
      rw [htk] at hc hM
      obtain ⟨hcl, rfl, y0, y1⟩ := hc.out
      have hcl11 : cl.length ≤ 12 := by
        have h1 := congrArg List.length hcl.ids
        rw [List.length_map, List.length_map] at h1
        have := HN.out
        omega
      have HS := Lib.hid (fun w (hM : Mem G w0 (⟨pp, 108, 4, plC B cl.length e' bh byt bud⟩ :: ⟨gx, 77, 2, rulesC gr (some ⟨gq, oq, none⟩) d⟩ :: L) (elT 113 10 (.slice B cl.length e') cl :: mapT bh (mpS (l.map (·.1))) :: R) w) => sort2_any B cl.length e' cl hcl11 hM (UpdR.head _ _) (fun x y w' l' _ _ hx hy => by
        obtain ⟨d1, a1, gg1, b1, k1, f1, o1, m1, e1, _⟩ := (hcl.ok x hx).ex
        obtain ⟨d2, a2, gg2, b2, k2, f2, o2, m2, e2, _⟩ := (hcl.ok y hy).ex
        unfold elC
        rw [e1, e2]
        exact cmpCand_any _ _ _ _ _ _ _ _ _ _ _ _ _ _ _ _ _ _ _))
      have HCL := Lib.hid hcl
      have HY := Lib.hid (show 0 ≤ byt ∧ byt ≤ 1100 from ⟨y0, by omega⟩)
      clear hc hcl hcl11 y0 y1 htk
      go_wp2_with (first | ((with_reducible refine (HS.out _ hM).mono ?_); rintro e w2 ⟨⟨v, rfl⟩, l', hp, hM2⟩; have HPM := Lib.hid hp; have HM2 := Lib.hid hM2; clear hM hp hM2) | ((first | with_reducible refine at_load ?_ | ((with_reducible refine at_load_g ?_ ?_); (· rfl))); first | refine nll hM ?_ | refine nlc hM ?_ | refine nlp hM ?_) | ((with_reducible refine at_store ?_); first | (refine nlw hM ?_; clear hM; intro wx hM) | (refine nls hM ?_; clear hM; intro wx hM) | (refine nlt hM ?_; clear hM; intro wx hM)) | ((with_reducible refine at_alloc ?_); refine nlz hM ?_; clear hM; intro gx wx hM) | ((with_reducible refine at_box ?_); first | (refine nlb hM ?_; clear hM; intro gx wx hM) | (refine nlx hM ?_; clear hM; intro gx wx hM)))
      go_ret
      refine ⟨pp, bh, B, cl.length, e', l', byt, rfl, HY.out, ?_, fun x hx => HCL.out.ok x (HPM.out.mem_iff.1 hx), HM2.out.subL (by exact List.Sublist.cons_cons _ (List.Sublist.cons _ (List.Sublist.refl _)))⟩
      rw [← HCL.out.ids]
      exact HPM.out.map _
end
end Go.Proofs.YtpjphjokhccdaaaGreat
