/- Seat n: the spool's small functions. -/
import Derived.Test.YtpjphjokhccdaaaGreatNge
namespace Go.Proofs.YtpjphjokhccdaaaGreat
open Go Go.RowKit Go.Bul Go.Thg Go.Lin Go.Maps
section
variable {w w0 : World} {G : List Nat} {L : List Ent} {R : List Thing} {F : Thing → List Thing}
abbrev splC (bud byt nxt : Int) (b : Nat) : Array Value := #[.int .i64 bud, .int .i64 byt, .int .i64 nxt, .map (some b)]
abbrev artV (t : ByteArray) (a p : Int) : Value := .agg #[.string t, .int .i64 a, .int .i64 p]
set_option maxRecDepth 20000 in
set_option maxHeartbeats 2000000 in
theorem sget_yes (s b j : Nat) (bud byt nxt a p : Int) (t : ByteArray) (mp : Nat → Option Value) (hM : Mem G w0 L R w) (hj : j < 11) (hn : mp j = some (artV t a p))
    (hL : ⟨s, 74, 4, splC bud byt nxt b⟩ ∈ L := by repeat (first | exact List.Mem.head _ | assumption | apply List.Mem.tail)) (hR : mapT b mp ∈ R := by repeat (first | exact List.Mem.head _ | assumption | apply List.Mem.tail)) :
    Calls Tryz.prog 30 #[.pointer (some ⟨s, 0, none⟩), .agg (stC j [])] w fun e w' => e = .returned (.tuple #[.string t, .int .i64 0]) ∧ Mem G w0 L R w' := by
  have HV := Lib.hid (show (mp j).getD (artV ⟨#[]⟩ 0 0) = artV t a p by rw [hn]; rfl)
  have HI := Lib.hid (show (mp j).isSome = true by rw [hn]; rfl)
  have HJ := Lib.hid hj
  clear hn hj
  go_enter Tryz.func30, Tryz.ntmps30
  go_upto_region 3 with (first | ((first | with_reducible refine at_load ?_ | ((with_reducible refine at_load_g ?_ ?_); (· rfl))); first | refine nll hM ?_ | refine nlc hM ?_ | refine nlp hM ?_) | ((with_reducible refine at_store ?_); first | (refine nlw hM ?_; clear hM; intro wx hM) | (refine nls hM ?_; clear hM; intro wx hM) | (refine nlt hM ?_; clear hM; intro wx hM)) | ((with_reducible refine at_alloc ?_); refine nlz hM ?_; clear hM; intro gx wx hM) | ((with_reducible refine at_box ?_); first | (refine nlb hM ?_; clear hM; intro gx wx hM) | (refine nlx hM ?_; clear hM; intro gx wx hM)))
  refine wp_region_allHB hM (by kernel_rfl) ?_
  clear hM
  intro wd hM
  have HM0 := Lib.hid hM
  have hS := Below.refl wd.heap.size wd
  refine wpAllH_takes [0, 1, 2, 3, 4, 5, 6, 7, 8] (by kernel_rfl) (fun _ _ _ _ _ h => h) hS (by kernel_rfl) ?_
  simp only [pickOps, List.filterMap_cons, List.filterMap_nil, List.getElem?_cons_zero, List.getElem?_cons_succ]
  repeat ((with_reducible apply wpHeld_step); (· rfl); (· (intro wq hSw; first | (go_simp; rfl) | (have hM' := HM0.out.step hSw; first | exact yields_load (C := fun _ => True) (nqc hM') rfl | exact yields_load (C := fun _ => True) (nql hM') rfl | exact yields_load (C := fun _ => True) (nqp hM') rfl | exact ymk mty_spool hM' HJ.out HV.out HI.out))); intro K hK; go_simp; (with_reducible refine hK _ ?_); clear hK K)
  refine wpHeld_nil ?_
  refine wpAllH_one 9 rfl (by kernel_rfl) ?_
  refine nlz (Mem.start [] wd) ?_
  intro gv wv hF
  refine wpList_then ⟨hF.below, ?_⟩
  refine wpAllH_one 10 rfl (by kernel_rfl) ?_
  refine nlw hF ?_
  clear hF
  intro wx hF
  refine wpList_then ⟨hF.below, ?_⟩
  replace hM := hM.frame hF
  simp only [List.cons_append, List.nil_append] at hM
  clear hS
  have hS := hF.below
  clear hF
  refine wpAllH_takes [11] (by kernel_rfl) (fun _ _ _ _ _ h => h) hS (by kernel_rfl) ?_
  simp only [pickOps, List.filterMap_cons, List.filterMap_nil, List.getElem?_cons_zero, List.getElem?_cons_succ]
  repeat ((with_reducible apply wpHeld_step); (· rfl); (· (intro wq hSw; first | (go_simp; rfl) | (have hM' := HM0.out.step hSw; first | exact yields_load (C := fun _ => True) (nqc hM') rfl | exact yields_load (C := fun _ => True) (nql hM') rfl | exact yields_load (C := fun _ => True) (nqp hM') rfl | fail))); intro K hK; go_simp; (with_reducible refine hK _ ?_); clear hK K)
  refine wpHeld_nil ?_
  clear hS HM0
  refine wpAllH_done (by kernel_rfl) ?_
  go_wp2_with (first | ((first | with_reducible refine at_load ?_ | ((with_reducible refine at_load_g ?_ ?_); (· rfl))); first | refine nll hM ?_ | refine nlc hM ?_ | refine nlp hM ?_) | ((with_reducible refine at_store ?_); first | (refine nlw hM ?_; clear hM; intro wx hM) | (refine nls hM ?_; clear hM; intro wx hM) | (refine nlt hM ?_; clear hM; intro wx hM)) | ((with_reducible refine at_alloc ?_); refine nlz hM ?_; clear hM; intro gx wx hM) | ((with_reducible refine at_box ?_); first | (refine nlb hM ?_; clear hM; intro gx wx hM) | (refine nlx hM ?_; clear hM; intro gx wx hM)))
  go_ret2
  exact ⟨rfl, hM.subL (by repeat (first | exact List.Sublist.refl _ | exact List.nil_sublist _ | apply List.Sublist.cons_cons | apply List.Sublist.cons))⟩
set_option maxRecDepth 20000 in
set_option maxHeartbeats 2000000 in
theorem sget_no (s b j : Nat) (bud byt nxt : Int) (mp : Nat → Option Value) (hM : Mem G w0 L R w) (hj : j < 11) (hn : mp j = none)
    (hL : ⟨s, 74, 4, splC bud byt nxt b⟩ ∈ L := by repeat (first | exact List.Mem.head _ | assumption | apply List.Mem.tail)) (hR : mapT b mp ∈ R := by repeat (first | exact List.Mem.head _ | assumption | apply List.Mem.tail)) :
    Calls Tryz.prog 30 #[.pointer (some ⟨s, 0, none⟩), .agg (stC j [])] w fun e w' => e = .returned (.tuple #[.string ⟨#[]⟩, .int .i64 8]) ∧ Mem G w0 L R w' := by
  have HV := Lib.hid (show (mp j).getD (artV ⟨#[]⟩ 0 0) = artV ⟨#[]⟩ 0 0 by rw [hn]; rfl)
  have HI := Lib.hid (show (mp j).isSome = false by rw [hn]; rfl)
  have HJ := Lib.hid hj
  clear hn hj
  go_enter Tryz.func30, Tryz.ntmps30
  go_upto_region 3 with (first | ((first | with_reducible refine at_load ?_ | ((with_reducible refine at_load_g ?_ ?_); (· rfl))); first | refine nll hM ?_ | refine nlc hM ?_ | refine nlp hM ?_) | ((with_reducible refine at_store ?_); first | (refine nlw hM ?_; clear hM; intro wx hM) | (refine nls hM ?_; clear hM; intro wx hM) | (refine nlt hM ?_; clear hM; intro wx hM)) | ((with_reducible refine at_alloc ?_); refine nlz hM ?_; clear hM; intro gx wx hM) | ((with_reducible refine at_box ?_); first | (refine nlb hM ?_; clear hM; intro gx wx hM) | (refine nlx hM ?_; clear hM; intro gx wx hM)))
  refine wp_region_allHB hM (by kernel_rfl) ?_
  clear hM
  intro wd hM
  have HM0 := Lib.hid hM
  have hS := Below.refl wd.heap.size wd
  refine wpAllH_takes [0, 1, 2, 3, 4, 5, 6, 7, 8] (by kernel_rfl) (fun _ _ _ _ _ h => h) hS (by kernel_rfl) ?_
  simp only [pickOps, List.filterMap_cons, List.filterMap_nil, List.getElem?_cons_zero, List.getElem?_cons_succ]
  repeat ((with_reducible apply wpHeld_step); (· rfl); (· (intro wq hSw; first | (go_simp; rfl) | (have hM' := HM0.out.step hSw; first | exact yields_load (C := fun _ => True) (nqc hM') rfl | exact yields_load (C := fun _ => True) (nql hM') rfl | exact yields_load (C := fun _ => True) (nqp hM') rfl | exact ymk mty_spool hM' HJ.out HV.out HI.out))); intro K hK; go_simp; (with_reducible refine hK _ ?_); clear hK K)
  refine wpHeld_nil ?_
  refine wpAllH_one 9 rfl (by kernel_rfl) ?_
  refine nlz (Mem.start [] wd) ?_
  intro gv wv hF
  refine wpList_then ⟨hF.below, ?_⟩
  refine wpAllH_one 10 rfl (by kernel_rfl) ?_
  refine nlw hF ?_
  clear hF
  intro wx hF
  refine wpList_then ⟨hF.below, ?_⟩
  replace hM := hM.frame hF
  simp only [List.cons_append, List.nil_append] at hM
  clear hS
  have hS := hF.below
  clear hF
  refine wpAllH_takes [11] (by kernel_rfl) (fun _ _ _ _ _ h => h) hS (by kernel_rfl) ?_
  simp only [pickOps, List.filterMap_cons, List.filterMap_nil, List.getElem?_cons_zero, List.getElem?_cons_succ]
  repeat ((with_reducible apply wpHeld_step); (· rfl); (· (intro wq hSw; first | (go_simp; rfl) | (have hM' := HM0.out.step hSw; first | exact yields_load (C := fun _ => True) (nqc hM') rfl | exact yields_load (C := fun _ => True) (nql hM') rfl | exact yields_load (C := fun _ => True) (nqp hM') rfl | fail))); intro K hK; go_simp; (with_reducible refine hK _ ?_); clear hK K)
  refine wpHeld_nil ?_
  clear hS HM0
  refine wpAllH_done (by kernel_rfl) ?_
  go_wp2_with (first | ((first | with_reducible refine at_load ?_ | ((with_reducible refine at_load_g ?_ ?_); (· rfl))); first | refine nll hM ?_ | refine nlc hM ?_ | refine nlp hM ?_) | ((with_reducible refine at_store ?_); first | (refine nlw hM ?_; clear hM; intro wx hM) | (refine nls hM ?_; clear hM; intro wx hM) | (refine nlt hM ?_; clear hM; intro wx hM)) | ((with_reducible refine at_alloc ?_); refine nlz hM ?_; clear hM; intro gx wx hM) | ((with_reducible refine at_box ?_); first | (refine nlb hM ?_; clear hM; intro gx wx hM) | (refine nlx hM ?_; clear hM; intro gx wx hM)))
  go_ret2
  exact ⟨rfl, hM.subL (by repeat (first | exact List.Sublist.refl _ | exact List.nil_sublist _ | apply List.Sublist.cons_cons | apply List.Sublist.cons))⟩
set_option maxRecDepth 20000 in
set_option maxHeartbeats 2000000 in
theorem shas_yes (s b j : Nat) (bud byt nxt a p : Int) (t : ByteArray) (mp : Nat → Option Value) (hM : Mem G w0 L R w) (hj : j < 11) (hn : mp j = some (artV t a p))
    (hL : ⟨s, 74, 4, splC bud byt nxt b⟩ ∈ L := by repeat (first | exact List.Mem.head _ | assumption | apply List.Mem.tail)) (hR : mapT b mp ∈ R := by repeat (first | exact List.Mem.head _ | assumption | apply List.Mem.tail)) :
    Calls Tryz.prog 17 #[.pointer (some ⟨s, 0, none⟩), .agg (stC j [])] w fun e w' => e = .returned (.bool true) ∧ Mem G w0 L R w' := by
  have HG := Lib.hid (fun (L : List Ent) (w : World) (hM : Mem G w0 L R w) (hL : (⟨s, 74, 4, splC bud byt nxt b⟩ : Ent) ∈ L) => sget_yes s b j bud byt nxt a p t mp hM hj hn hL hR)
  clear hn hj
  go_enter Tryz.func17, Tryz.ntmps17
  go_wp2_with (first | ((with_reducible refine (HG.out _ _ hM (List.Mem.tail _ hL)).mono ?_); rintro e w1 ⟨rfl, hM1⟩; clear hM; have hM := hM1; clear hM1) | ((first | with_reducible refine at_load ?_ | ((with_reducible refine at_load_g ?_ ?_); (· rfl))); first | refine nll hM ?_ | refine nlc hM ?_ | refine nlp hM ?_) | ((with_reducible refine at_store ?_); first | (refine nlw hM ?_; clear hM; intro wx hM) | (refine nls hM ?_; clear hM; intro wx hM) | (refine nlt hM ?_; clear hM; intro wx hM)) | ((with_reducible refine at_alloc ?_); refine nlz hM ?_; clear hM; intro gx wx hM) | ((with_reducible refine at_box ?_); first | (refine nlb hM ?_; clear hM; intro gx wx hM) | (refine nlx hM ?_; clear hM; intro gx wx hM)))
  go_ret
  exact ⟨rfl, hM.subL (by repeat (first | exact List.Sublist.refl _ | exact List.nil_sublist _ | apply List.Sublist.cons_cons | apply List.Sublist.cons))⟩
set_option maxRecDepth 20000 in
set_option maxHeartbeats 2000000 in
theorem shas_no (s b j : Nat) (bud byt nxt : Int) (mp : Nat → Option Value) (hM : Mem G w0 L R w) (hj : j < 11) (hn : mp j = none)
    (hL : ⟨s, 74, 4, splC bud byt nxt b⟩ ∈ L := by repeat (first | exact List.Mem.head _ | assumption | apply List.Mem.tail)) (hR : mapT b mp ∈ R := by repeat (first | exact List.Mem.head _ | assumption | apply List.Mem.tail)) :
    Calls Tryz.prog 17 #[.pointer (some ⟨s, 0, none⟩), .agg (stC j [])] w fun e w' => e = .returned (.bool false) ∧ Mem G w0 L R w' := by
  have HG := Lib.hid (fun (L : List Ent) (w : World) (hM : Mem G w0 L R w) (hL : (⟨s, 74, 4, splC bud byt nxt b⟩ : Ent) ∈ L) => sget_no s b j bud byt nxt mp hM hj hn hL hR)
  clear hn hj
  go_enter Tryz.func17, Tryz.ntmps17
  go_wp2_with (first | ((with_reducible refine (HG.out _ _ hM (List.Mem.tail _ hL)).mono ?_); rintro e w1 ⟨rfl, hM1⟩; clear hM; have hM := hM1; clear hM1) | ((first | with_reducible refine at_load ?_ | ((with_reducible refine at_load_g ?_ ?_); (· rfl))); first | refine nll hM ?_ | refine nlc hM ?_ | refine nlp hM ?_) | ((with_reducible refine at_store ?_); first | (refine nlw hM ?_; clear hM; intro wx hM) | (refine nls hM ?_; clear hM; intro wx hM) | (refine nlt hM ?_; clear hM; intro wx hM)) | ((with_reducible refine at_alloc ?_); refine nlz hM ?_; clear hM; intro gx wx hM) | ((with_reducible refine at_box ?_); first | (refine nlb hM ?_; clear hM; intro gx wx hM) | (refine nlx hM ?_; clear hM; intro gx wx hM)))
  go_ret
  exact ⟨rfl, hM.subL (by repeat (first | exact List.Sublist.refl _ | exact List.nil_sublist _ | apply List.Sublist.cons_cons | apply List.Sublist.cons))⟩
set_option maxRecDepth 20000 in
set_option maxHeartbeats 2000000 in
theorem sfree_any (s b : Nat) (bud byt nxt : Int) (hM : Mem G w0 L R w) (b0 : 0 ≤ bud) (b1 : bud ≤ 100000) (y0 : -100000 ≤ byt) (y1 : byt ≤ 100000)
    (hL : ⟨s, 74, 4, splC bud byt nxt b⟩ ∈ L := by repeat (first | exact List.Mem.head _ | assumption | apply List.Mem.tail)) :
    Calls Tryz.prog 23 #[.pointer (some ⟨s, 0, none⟩)] w fun e w' => e = .returned (.int .i64 (bud - byt)) ∧ Mem G w0 L R w' := by
  have hw : IntKind.i64.wrap (bud - byt) = bud - byt := IntWalk.i64_in _ ⟨by omega, by omega⟩
  clear b0 b1 y0 y1
  go_enter Tryz.func23, Tryz.ntmps23
  go_upto_region 3 with (first | ((first | with_reducible refine at_load ?_ | ((with_reducible refine at_load_g ?_ ?_); (· rfl))); first | refine nll hM ?_ | refine nlc hM ?_ | refine nlp hM ?_) | ((with_reducible refine at_store ?_); first | (refine nlw hM ?_; clear hM; intro wx hM) | (refine nls hM ?_; clear hM; intro wx hM) | (refine nlt hM ?_; clear hM; intro wx hM)) | ((with_reducible refine at_alloc ?_); refine nlz hM ?_; clear hM; intro gx wx hM) | ((with_reducible refine at_box ?_); first | (refine nlb hM ?_; clear hM; intro gx wx hM) | (refine nlx hM ?_; clear hM; intro gx wx hM)))
  refine wp_region_allHB hM (by kernel_rfl) ?_
  clear hM
  intro wd hM
  have HM0 := Lib.hid hM
  have hS := Below.refl wd.heap.size wd
  refine wpAllH_takes [0, 1, 2, 4, 5, 6, 3, 7, 8, 9] (by kernel_rfl) (fun _ _ _ _ _ h => h) hS (by kernel_rfl) ?_
  simp only [pickOps, List.filterMap_cons, List.filterMap_nil, List.getElem?_cons_zero, List.getElem?_cons_succ]
  repeat ((with_reducible apply wpHeld_step); (· rfl); (· (intro wq hSw; first | (go_simp; rfl) | (have hM' := HM0.out.step hSw; first | exact yields_load (C := fun _ => True) (nqc hM') rfl | exact yields_load (C := fun _ => True) (nql hM') rfl | exact yields_load (C := fun _ => True) (nqp hM') rfl | fail))); intro K hK; go_simp; (with_reducible refine hK _ ?_); clear hK K)
  refine wpHeld_nil ?_
  clear hS HM0
  refine wpAllH_done (by kernel_rfl) ?_
  go_wp2_with (first | ((first | with_reducible refine at_load ?_ | ((with_reducible refine at_load_g ?_ ?_); (· rfl))); first | refine nll hM ?_ | refine nlc hM ?_ | refine nlp hM ?_) | ((with_reducible refine at_store ?_); first | (refine nlw hM ?_; clear hM; intro wx hM) | (refine nls hM ?_; clear hM; intro wx hM) | (refine nlt hM ?_; clear hM; intro wx hM)) | ((with_reducible refine at_alloc ?_); refine nlz hM ?_; clear hM; intro gx wx hM) | ((with_reducible refine at_box ?_); first | (refine nlb hM ?_; clear hM; intro gx wx hM) | (refine nlx hM ?_; clear hM; intro gx wx hM)))
  go_ret
  exact ⟨rfl, hM⟩
set_option maxRecDepth 20000 in
set_option maxHeartbeats 2000000 in
theorem slen_any (s b : Nat) (bud byt nxt : Int) (mp : Nat → Option Value) (hM : Mem G w0 L R w) (hL : ⟨s, 74, 4, splC bud byt nxt b⟩ ∈ L := by repeat (first | exact List.Mem.head _ | assumption | apply List.Mem.tail)) (hR : mapT b mp ∈ R := by repeat (first | exact List.Mem.head _ | assumption | apply List.Mem.tail)) :
    Calls Tryz.prog 18 #[.pointer (some ⟨s, 0, none⟩)] w fun e w' => e = .returned (.int .i64 (cntM mp : Nat)) ∧ w = w' := by
  go_enter Tryz.func18, Tryz.ntmps18
  go_wp2_with (first | ((with_reducible refine at_blen ?_); refine nmn hM mty_spool ?_) | ((first | with_reducible refine at_load ?_ | ((with_reducible refine at_load_g ?_ ?_); (· rfl))); first | refine nll hM ?_ | refine nlc hM ?_ | refine nlp hM ?_) | ((with_reducible refine at_store ?_); first | (refine nlw hM ?_; clear hM; intro wx hM) | (refine nls hM ?_; clear hM; intro wx hM) | (refine nlt hM ?_; clear hM; intro wx hM)) | ((with_reducible refine at_alloc ?_); refine nlz hM ?_; clear hM; intro gx wx hM) | ((with_reducible refine at_box ?_); first | (refine nlb hM ?_; clear hM; intro gx wx hM) | (refine nlx hM ?_; clear hM; intro gx wx hM)))
  go_ret
  exact ⟨rfl, rfl⟩
set_option maxRecDepth 20000 in
set_option maxHeartbeats 2000000 in
theorem sremove_yes {FL : Array Value → List Ent} (s b j : Nat) (bud byt nxt a p : Int) (t : ByteArray) (mp : Nat → Option Value) (hM : Mem G w0 L R w) (hj : j < 11) (hn : mp j = some (artV t a p)) (ht : t.size ≤ 1000) (y0 : -100000 ≤ byt) (y1 : byt ≤ 100000)
    (hL : UpdL s 74 4 (splC bud byt nxt b) L FL := by repeat (first | exact UpdL.head _ _ _ _ _ | assumption | apply UpdL.tail)) (hR : UpdR (mapT b mp) R F := by repeat (first | exact UpdR.head _ _ | assumption | apply UpdR.tail)) :
    Calls Tryz.prog 13 #[.pointer (some ⟨s, 0, none⟩), .agg (stC j [])] w fun e w' => e = .returned (.int .i64 0) ∧ Mem G w0 (FL (splC bud (byt - t.size) nxt b)) (F (mapT b (updM mp j none))) w' := by
  have hR0 := mem_of_updR hR
  have hL0 := mem_of_updL hL
  have HG := Lib.hid (fun (L : List Ent) (w : World) (hM : Mem G w0 L R w) (hL : (⟨s, 74, 4, splC bud byt nxt b⟩ : Ent) ∈ L) => sget_yes s b j bud byt nxt a p t mp hM hj hn hL hR0)
  have HJ := Lib.hid hj
  have t0 : (0 : Int) ≤ (t.size : Nat) := Int.natCast_nonneg _
  have t1 : ((t.size : Nat) : Int) ≤ 1000 := by omega
  clear hn hj ht
  go_enter Tryz.func13, Tryz.ntmps13
  go_upto_region 4 with (first | ((with_reducible refine (HG.out _ _ hM (List.Mem.tail _ hL0)).mono ?_); rintro e w1 ⟨rfl, hM1⟩; clear hM; have hM := hM1; clear hM1) | ((first | with_reducible refine at_load ?_ | ((with_reducible refine at_load_g ?_ ?_); (· rfl))); first | refine nll hM ?_ | refine nlc hM ?_ | refine nlp hM ?_) | ((with_reducible refine at_store ?_); first | (refine nlw hM ?_; clear hM; intro wx hM) | (refine nls hM ?_; clear hM; intro wx hM) | (refine nlt hM ?_; clear hM; intro wx hM)) | ((with_reducible refine at_alloc ?_); refine nlz hM ?_; clear hM; intro gx wx hM) | ((with_reducible refine at_box ?_); first | (refine nlb hM ?_; clear hM; intro gx wx hM) | (refine nlx hM ?_; clear hM; intro gx wx hM)))
  refine wp_region_allB hM 5 (by kernel_rfl) ?_
  clear hM
  intro wd hM
  have HM0 := Lib.hid hM
  have hS := Below.refl wd.heap.size wd
  refine wpAllT_takes [0, 1, 2, 3, 4] (by kernel_rfl) (fun _ _ _ _ _ h => h) hS (by kernel_rfl) ?_
  simp only [pickOps, List.filterMap_cons, List.filterMap_nil, List.getElem?_cons_zero, List.getElem?_cons_succ]
  repeat ((with_reducible apply wpHeld_step); (· rfl); (· (intro wq hSw; first | (go_simp; rfl) | (have hM' := HM0.out.step hSw; first | exact yields_load (C := fun _ => True) (nqc hM') rfl | exact yields_load (C := fun _ => True) (nql hM') rfl | exact yields_load (C := fun _ => True) (nqp hM') rfl | fail))); intro K hK; go_simp; (with_reducible refine hK _ ?_); clear hK K)
  refine wpHeld_nil ?_
  refine wpAllT_one 5 rfl (by kernel_rfl) ?_
  refine nmd hM mty_spool HJ.out ?_
  clear hM HM0 hS
  intro wx hM
  refine wpList_then ⟨.inl (by kernel_rfl), wpAllT_drop (by kernel_rfl) (wpAll_done (by kernel_rfl) ?_)⟩
  go_wp2_with (first | ((with_reducible refine at_store ?_); refine nls hM ?_ (v := .int .i64 (byt - t.size)) (hX := set_4_1 _ _ _ _ _); clear hM; intro wx hM) | ((first | with_reducible refine at_load ?_ | ((with_reducible refine at_load_g ?_ ?_); (· rfl))); first | refine nll hM ?_ | refine nlc hM ?_ | refine nlp hM ?_) | ((with_reducible refine at_store ?_); first | (refine nlw hM ?_; clear hM; intro wx hM) | (refine nls hM ?_; clear hM; intro wx hM) | (refine nlt hM ?_; clear hM; intro wx hM)) | ((with_reducible refine at_alloc ?_); refine nlz hM ?_; clear hM; intro gx wx hM) | ((with_reducible refine at_box ?_); first | (refine nlb hM ?_; clear hM; intro gx wx hM) | (refine nlx hM ?_; clear hM; intro gx wx hM)))
  go_ret
  exact ⟨rfl, hM.subL (by repeat (first | exact List.Sublist.refl _ | exact List.nil_sublist _ | apply List.Sublist.cons_cons | apply List.Sublist.cons))⟩
theorem run_spool (bud : Int) (b : Nat) (w : World) : (Instr.build 74 #[(0, .int .i64 bud), (3, .map (some b))]).run Tryz.prog w = .ok (.agg (splC bud 0 0 b)) w := by kernel_rfl
set_option maxRecDepth 20000 in
set_option maxHeartbeats 2000000 in
theorem snew_any (bud : Int) (w : World) (b0 : 1 ≤ bud) (b1 : bud ≤ 1000) : Calls Tryz.prog 5 #[.int .i64 bud] w fun e w' => ∃ s b, e = .returned (.tuple #[.pointer (some ⟨s, 0, none⟩), .int .i64 0]) ∧ Mem [] w [⟨s, 74, 4, splC bud 0 0 b⟩] [mapT b (fun _ => none)] w' := by
  have hM := Mem.start [] w
  have c1 : decide (bud < 1) = false := decide_eq_false (by omega)
  have c2 : decide (1073741824 < bud) = false := decide_eq_false (by omega)
  clear b0 b1
  go_enter Tryz.func5, Tryz.ntmps5
  go_wp2_with (first | ((with_reducible refine at_mmake ?_); refine nmm hM ?_; clear hM; intro b w1 hM) | ((with_reducible refine at_build ?_); refine wpList_build_run rfl _ _ rfl _ rfl _ (run_spool bud b _) ?_) | ((first | with_reducible refine at_load ?_ | ((with_reducible refine at_load_g ?_ ?_); (· rfl))); first | refine nll hM ?_ | refine nlc hM ?_ | refine nlp hM ?_) | ((with_reducible refine at_store ?_); first | (refine nlw hM ?_; clear hM; intro wx hM) | (refine nls hM ?_; clear hM; intro wx hM) | (refine nlt hM ?_; clear hM; intro wx hM)) | ((with_reducible refine at_alloc ?_); refine nlz hM ?_; clear hM; intro gx wx hM) | ((with_reducible refine at_box ?_); first | (refine nlb hM ?_; clear hM; intro gx wx hM) | (refine nlx hM ?_; clear hM; intro gx wx hM)))
  go_ret2
  exact ⟨_, _, rfl, hM⟩
end
end Go.Proofs.YtpjphjokhccdaaaGreat
