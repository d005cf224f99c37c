/- Seat c: Hear. -/
import Derived.Test.YtlidpdjainmaiaaGreatDoorGq
namespace Go.Bul
open Go Go.RowKit Go.Thg
theorem wp_region_allN {P : Program} {Q : Exit → Act → World → Prop} {w w0 : World} {G : List Nat} {L : List Ent} {R : List Thing} (hM : Mem G w0 L R w) {id : Nat} {a : Act} {l : List Oper} (hm : P.follows .mixedOrders = true)
    (h : ∀ wd, Mem G w0 L R wd → wpAll P l.toArray Q (Array.replicate l.toArray.size false) a wd) : (Code.region id l.toArray true).wp P Q a w :=
  wp_region_all hm (h _ hM.drew)
end Go.Bul
namespace Go.Proofs.YtlidpdjainmaiaaGreatDoor
open Go Go.RowKit Go.Bul Go.Thg Go.Lin Go.Cht
abbrev gwA (rm gp nk : ByteArray) (V : Value) (last : Int) (mm mr : Nat) : Array Value := #[.string rm, .string gp, .string nk, V, .int .i64 last, .map (some mm), .map (some mr)]
section
variable {w w0 : World} {G : List Nat} {L : List Ent} {R : List Thing} {FL : Array Value → List Ent} {FR : Thing → List Thing}
set_option maxRecDepth 20000 in
set_option maxHeartbeats 2000000 in
theorem hear_no (g : Nat) (k t : ByteArray) (m : Int) (hM : Mem G w0 L R w) (hsz : t.size ≤ 1000000000) (hno : chkL m (nums k) (nums t) ≠ 0) :
    Calls Tryz.prog 7 #[.pointer (some ⟨g, 0, none⟩), .agg #[.int .i64 m, .string k, .string t]] w fun e w' => e = .returned (.int .i64 (chkL m (nums k) (nums t))) ∧ Mem G w0 L R w' := by
  have HC := Lib.hid (fun w => lcheck_any m k t w hsz)
  have hb : (chkL m (nums k) (nums t) != 0) = true := by simpa using hno
  generalize chkL m (nums k) (nums t) = z at HC hb ⊢
  clear hno hsz
  go_enter Tryz.func7, Tryz.ntmps7
  go_wp2_with (first | ((with_reducible refine at_box ?_); refine nlb hM ?_ (n := 3) (hn := rfl); clear hM; intro gx wx hM) | ((with_reducible refine (HC.out _).mono ?_); rintro e w1 ⟨rfl, hb⟩; replace hM := hM.step hb; clear hb) | ((first | with_reducible refine at_load ?_ | ((with_reducible refine at_load_g ?_ ?_); (· rfl))); first | refine nll hM ?_ | refine nlc hM ?_ | refine nlp hM ?_) | ((with_reducible refine at_store ?_); first | (refine nlw hM ?_; clear hM; intro wx hM) | (refine nls hM ?_; clear hM; intro wx hM) | (refine nlt hM ?_; clear hM; intro wx hM)) | ((with_reducible refine at_alloc ?_); refine nlz hM ?_; clear hM; intro gx wx hM) | ((with_reducible refine at_box ?_); first | (refine nlb hM ?_; clear hM; intro gx wx hM) | (refine nlx hM ?_; clear hM; intro gx wx hM)))
  go_ret
  exact ⟨rfl, hM.subL (List.sublist_cons_self _ _)⟩
set_option maxRecDepth 20000 in
set_option maxHeartbeats 4000000 in
theorem hear_yes (g : Nat) (rm gp nk k t : ByteArray) (V : Value) (last m mm mr : Nat) (ls : List Ln) (hM : Mem G w0 L R w) (hL : UpdL g 57 7 (gwA rm gp nk V last mm mr) L FL) (hR : UpdR (lT V ls) R FR) (hsz : t.size ≤ 1000000000) (hsk : k.size ≤ 1000000000) (hsn : nk.size ≤ 1000000000) (hok : chkL (m : Nat) (nums k) (nums t) = 0) (hle : last ≤ m) (hne : (lowL (nums k) == lowL (nums nk)) = false) (hll : ls.length ≤ 1000) :
    Calls Tryz.prog 7 #[.pointer (some ⟨g, 0, none⟩), .agg #[.int .i64 (m : Nat), .string k, .string t]] w fun e w' => e = .returned (.int .i64 0) ∧ ∃ A' N' c', Mem G w0 (FL (gwA rm gp nk (.slice A' N' c') m mm mr)) (FR (lT (.slice A' N' c') (ls ++ [⟨m, k, t⟩]))) w' := by
  have HC := Lib.hid (fun w => lcheck_any m k t w hsz)
  rw [hok] at HC
  have HE := Lib.hid (fun w => equalFold_any k nk w hsk hsn)
  rw [hne] at HE
  have h1 : decide ((m : Int) < (last : Nat)) = false := decide_eq_false (by omega)
  have h2 : decide (m < last) = false := decide_eq_false (by omega)
  have hL2 := hL.again (gwA rm gp nk V m mm mr)
  have hL0 := mem_of_updL hL
  have hL1 := mem_of_updL hL2
  clear hok hle hne hsz hsk hsn
  go_enter Tryz.func7, Tryz.ntmps7
  go_wp2_with (first | ((with_reducible refine at_box ?_); refine nlb hM ?_ (n := 3) (hn := rfl); clear hM; intro gx wx hM) | ((with_reducible refine (HC.out _).mono ?_); rintro e w1 ⟨rfl, hb⟩; replace hM := hM.step hb; clear hb) | ((first | with_reducible refine at_load ?_ | ((with_reducible refine at_load_g ?_ ?_); (· rfl))); first | refine nll hM ?_ | refine nlc hM ?_ | refine nlp hM ?_) | ((with_reducible refine at_store ?_); first | (refine nlw hM ?_; clear hM; intro wx hM) | (refine nls hM ?_; clear hM; intro wx hM) | (refine nlt hM ?_; clear hM; intro wx hM)) | ((with_reducible refine at_alloc ?_); refine nlz hM ?_; clear hM; intro gx wx hM) | ((with_reducible refine at_box ?_); first | (refine nlb hM ?_; clear hM; intro gx wx hM) | (refine nlx hM ?_; clear hM; intro gx wx hM)))
  refine Go.Bul.wp_region_class (Mem G w0 _ R) (by kernel_rfl) (by kernel_rfl) hM.drew ?_
  clear hM
  repeat ((with_reducible refine wpQuiet_step (fun K hK => ?_)); (first | ((first | ((with_reducible refine quiet_some ?_ ?_); (· rfl)) | ((with_reducible refine Go.Thg.quiet_wanted ?_ ?_); (· rfl))); apply Exists.intro; refine ⟨fun w' hM' => ?_, ?_⟩; (· first | fail | (go_simp; rfl) | exact nqc hM' | exact nql hM' | exact nqp hM')) | ((with_reducible refine Go.Thg.quiet_unwanted ?_ ?_); (· rfl))); go_simp; (with_reducible refine hK _ ?_); clear hK K)
  refine wpQuiet_nil ?_
  intro wx hM
  go_wp2_with (first | ((first | with_reducible refine at_load ?_ | ((with_reducible refine at_load_g ?_ ?_); (· rfl))); first | refine nll hM ?_ | refine nlc hM ?_ | refine nlp hM ?_) | ((with_reducible refine at_store ?_); first | (refine nlw hM ?_; clear hM; intro wx hM) | (refine nls hM ?_; clear hM; intro wx hM) | (refine nlt hM ?_; clear hM; intro wx hM)) | ((with_reducible refine at_alloc ?_); refine nlz hM ?_; clear hM; intro gx wx hM) | ((with_reducible refine at_box ?_); first | (refine nlb hM ?_; clear hM; intro gx wx hM) | (refine nlx hM ?_; clear hM; intro gx wx hM)))
  refine wp_region_allHB hM (by kernel_rfl) ?_
  clear hM
  intro wd hM
  have HM0 := Lib.hid hM
  have hS := Below.refl wd.heap.size wd
  refine wpAllH_takes [0, 1, 2, 3, 4, 5] (by kernel_rfl) (fun _ _ _ _ _ h => h) hS (by kernel_rfl) ?_
  simp only [pickOps, List.filterMap_cons, List.filterMap_nil, List.getElem?_cons_zero, List.getElem?_cons_succ]
  repeat ((with_reducible apply wpHeld_step); (· rfl); (· (intro wq hSw; first | (go_simp; rfl) | (have hM' := HM0.out.step hSw; first | exact yields_load (C := fun _ => True) (nqc hM') rfl | exact yields_load (C := fun _ => True) (nql hM') rfl | exact yields_load (C := fun _ => True) (nqp hM') rfl | fail))); intro K hK; go_simp; (with_reducible refine hK _ ?_); clear hK K)
  refine wpHeld_nil ?_
  refine wpAllH_one 6 rfl (by kernel_rfl) ?_
  go_wp2_with fail
  refine (HE.out _).mono ?_
  rintro e w1 ⟨rfl, hb⟩
  go_wp2_with fail
  replace hM := hM.step hb
  replace hS := Below.step hS hb
  clear hb
  refine then_normal ⟨hS, ?_⟩
  refine wpAllH_takes [7] (by kernel_rfl) (fun _ _ _ _ _ h => h) hS (by kernel_rfl) ?_
  simp only [pickOps, List.filterMap_cons, List.filterMap_nil, List.getElem?_cons_zero, List.getElem?_cons_succ]
  repeat ((with_reducible apply wpHeld_step); (· rfl); (· (intro wq hSw; first | (go_simp; rfl) | (have hM' := HM0.out.step hSw; first | exact yields_load (C := fun _ => True) (nqc hM') rfl | exact yields_load (C := fun _ => True) (nql hM') rfl | exact yields_load (C := fun _ => True) (nqp hM') rfl | fail))); intro K hK; go_simp; (with_reducible refine hK _ ?_); clear hK K)
  refine wpHeld_nil ?_
  clear hS HM0
  refine wpAllH_done (by kernel_rfl) ?_
  go_wp2_with fail
  refine wp_region_allN hM (by kernel_rfl) ?_
  clear hM
  intro wd hM
  refine wpAll_takes [0, 1, 2, 3] (by kernel_rfl) (fun _ _ _ _ _ h => h) (by kernel_rfl) ?_
  simp only [pickOps, List.filterMap_cons, List.filterMap_nil, List.getElem?_cons_zero, List.getElem?_cons_succ]
  repeat ((with_reducible apply wpPure_step); (· rfl); (· (intro w; go_simp; rfl)); intro K hK; go_simp; (with_reducible refine hK _ ?_); clear hK K)
  refine wpPure_nil ?_
  refine wpAll_of_T (fun w' => Below wd.heap.size wd w') 7 ?_
  have hS := Below.refl wd.heap.size wd
  have HM0 := Lib.hid hM
  refine wpAllT_takes [4, 5] (by kernel_rfl) (fun _ _ _ _ _ h => h) hS (by kernel_rfl) ?_
  simp only [pickOps, List.filterMap_cons, List.filterMap_nil, List.getElem?_cons_zero, List.getElem?_cons_succ]
  repeat ((with_reducible apply wpHeld_step); (· rfl); (· (intro wq hSw; first | (go_simp; rfl) | (have hM' := HM0.out.step hSw; first | exact yields_load (C := fun _ => True) (nqc hM') rfl | exact yields_load (C := fun _ => True) (nql hM') rfl | exact yields_load (C := fun _ => True) (nqp hM') rfl | fail))); intro K hK; go_simp; (with_reducible refine hK _ ?_); clear hK K)
  refine wpHeld_nil ?_
  refine wpAllT_one 6 rfl (by kernel_rfl) ?_
  refine gbs (Mem.start [] _) rt_ln (cs := #[.int .i64 (m : Nat), .string k, .string t]) rfl rfl (by decide) ?_
  intro gb wb hF
  replace hM := hM.frame hF
  simp only [List.cons_append, List.nil_append] at hM
  replace hS := Below.step hS hF.below
  clear hF
  refine wpList_then ⟨.inr hS, ?_⟩
  refine wpAllT_one 7 rfl (by kernel_rfl) ?_
  refine gap (l := ls) hM rt_ln (ent_src (x := ⟨m, k, t⟩) hM rt_ln rfl (List.Mem.head _)) (by omega) ?_
  clear hM hS HM0
  intro A2 N2 c2 wz HNN hM
  refine wpList_then ⟨.inl (by kernel_rfl), wpAllT_drop (by kernel_rfl) ?_⟩
  go_simp
  refine wpAll_seq [8, 9, 10] (by kernel_rfl) ?_
  simp only [pickOps, List.filterMap_cons, List.filterMap_nil, List.getElem?_cons_zero, List.getElem?_cons_succ]
  repeat (first | ((first | ((first | with_reducible refine at_load ?_ | ((with_reducible refine at_load_g ?_ ?_); (· rfl))); first | refine nll hM ?_ | refine nlc hM ?_ | refine nlp hM ?_) | ((with_reducible refine at_store ?_); first | (refine nlw hM ?_; clear hM; intro wx hM) | (refine nls hM ?_; clear hM; intro wx hM) | (refine nlt hM ?_; clear hM; intro wx hM)) | ((with_reducible refine at_alloc ?_); refine nlz hM ?_; clear hM; intro gx wx hM) | ((with_reducible refine at_box ?_); first | (refine nlb hM ?_; clear hM; intro gx wx hM) | (refine nlx hM ?_; clear hM; intro gx wx hM))); go_simp) | ((with_reducible apply wpList_pure); (· rfl); (· (go_simp; rfl)); go_simp))
  refine wpList_end ?_
  go_wp2_with fail
  go_ret
  exact ⟨rfl, A2, N2, c2, hM.subL ((List.sublist_cons_self _ _).trans (List.sublist_cons_self _ _))⟩
set_option maxRecDepth 20000 in
set_option maxHeartbeats 4000000 in
/-- What the gateway says itself. -/
theorem hear_own (g : Nat) (rm gp nk k t : ByteArray) (V : Value) (last m mm mr : Nat) (hM : Mem G w0 L R w) (hL : UpdL g 57 7 (gwA rm gp nk V last mm mr) L FL) (hsz : t.size ≤ 1000000000) (hsk : k.size ≤ 1000000000) (hsn : nk.size ≤ 1000000000) (hok : chkL (m : Nat) (nums k) (nums t) = 0) (hle : last ≤ m) (hne : (lowL (nums k) == lowL (nums nk)) = true) :
    Calls Tryz.prog 7 #[.pointer (some ⟨g, 0, none⟩), .agg #[.int .i64 (m : Nat), .string k, .string t]] w fun e w' => e = .returned (.int .i64 0) ∧ Mem G w0 (FL (gwA rm gp nk V m mm mr)) R w' := by
  have HC := Lib.hid (fun w => lcheck_any m k t w hsz)
  rw [hok] at HC
  have HE := Lib.hid (fun w => equalFold_any k nk w hsk hsn)
  rw [hne] at HE
  have h1 : decide ((m : Int) < (last : Nat)) = false := decide_eq_false (by omega)
  have h2 : decide (m < last) = false := decide_eq_false (by omega)
  have hL2 := hL.again (gwA rm gp nk V m mm mr)
  have hL0 := mem_of_updL hL
  have hL1 := mem_of_updL hL2
  clear hok hle hne hsz hsk hsn
  go_enter Tryz.func7, Tryz.ntmps7
  go_wp2_with (first | ((with_reducible refine at_box ?_); refine nlb hM ?_ (n := 3) (hn := rfl); clear hM; intro gx wx hM) | ((with_reducible refine (HC.out _).mono ?_); rintro e w1 ⟨rfl, hb⟩; replace hM := hM.step hb; clear hb) | ((first | with_reducible refine at_load ?_ | ((with_reducible refine at_load_g ?_ ?_); (· rfl))); first | refine nll hM ?_ | refine nlc hM ?_ | refine nlp hM ?_) | ((with_reducible refine at_store ?_); first | (refine nlw hM ?_; clear hM; intro wx hM) | (refine nls hM ?_; clear hM; intro wx hM) | (refine nlt hM ?_; clear hM; intro wx hM)) | ((with_reducible refine at_alloc ?_); refine nlz hM ?_; clear hM; intro gx wx hM) | ((with_reducible refine at_box ?_); first | (refine nlb hM ?_; clear hM; intro gx wx hM) | (refine nlx hM ?_; clear hM; intro gx wx hM)))
  refine Go.Bul.wp_region_class (Mem G w0 _ R) (by kernel_rfl) (by kernel_rfl) hM.drew ?_
  clear hM
  repeat ((with_reducible refine wpQuiet_step (fun K hK => ?_)); (first | ((first | ((with_reducible refine quiet_some ?_ ?_); (· rfl)) | ((with_reducible refine Go.Thg.quiet_wanted ?_ ?_); (· rfl))); apply Exists.intro; refine ⟨fun w' hM' => ?_, ?_⟩; (· first | fail | (go_simp; rfl) | exact nqc hM' | exact nql hM' | exact nqp hM')) | ((with_reducible refine Go.Thg.quiet_unwanted ?_ ?_); (· rfl))); go_simp; (with_reducible refine hK _ ?_); clear hK K)
  refine wpQuiet_nil ?_
  intro wx hM
  go_wp2_with (first | ((first | with_reducible refine at_load ?_ | ((with_reducible refine at_load_g ?_ ?_); (· rfl))); first | refine nll hM ?_ | refine nlc hM ?_ | refine nlp hM ?_) | ((with_reducible refine at_store ?_); first | (refine nlw hM ?_; clear hM; intro wx hM) | (refine nls hM ?_; clear hM; intro wx hM) | (refine nlt hM ?_; clear hM; intro wx hM)) | ((with_reducible refine at_alloc ?_); refine nlz hM ?_; clear hM; intro gx wx hM) | ((with_reducible refine at_box ?_); first | (refine nlb hM ?_; clear hM; intro gx wx hM) | (refine nlx hM ?_; clear hM; intro gx wx hM)))
  refine wp_region_allHB hM (by kernel_rfl) ?_
  clear hM
  intro wd hM
  have HM0 := Lib.hid hM
  have hS := Below.refl wd.heap.size wd
  refine wpAllH_takes [0, 1, 2, 3, 4, 5] (by kernel_rfl) (fun _ _ _ _ _ h => h) hS (by kernel_rfl) ?_
  simp only [pickOps, List.filterMap_cons, List.filterMap_nil, List.getElem?_cons_zero, List.getElem?_cons_succ]
  repeat ((with_reducible apply wpHeld_step); (· rfl); (· (intro wq hSw; first | (go_simp; rfl) | (have hM' := HM0.out.step hSw; first | exact yields_load (C := fun _ => True) (nqc hM') rfl | exact yields_load (C := fun _ => True) (nql hM') rfl | exact yields_load (C := fun _ => True) (nqp hM') rfl | fail))); intro K hK; go_simp; (with_reducible refine hK _ ?_); clear hK K)
  refine wpHeld_nil ?_
  refine wpAllH_one 6 rfl (by kernel_rfl) ?_
  go_wp2_with fail
  refine (HE.out _).mono ?_
  rintro e w1 ⟨rfl, hb⟩
  go_wp2_with fail
  replace hM := hM.step hb
  replace hS := Below.step hS hb
  clear hb
  refine then_normal ⟨hS, ?_⟩
  refine wpAllH_takes [7] (by kernel_rfl) (fun _ _ _ _ _ h => h) hS (by kernel_rfl) ?_
  simp only [pickOps, List.filterMap_cons, List.filterMap_nil, List.getElem?_cons_zero, List.getElem?_cons_succ]
  repeat ((with_reducible apply wpHeld_step); (· rfl); (· (intro wq hSw; first | (go_simp; rfl) | (have hM' := HM0.out.step hSw; first | exact yields_load (C := fun _ => True) (nqc hM') rfl | exact yields_load (C := fun _ => True) (nql hM') rfl | exact yields_load (C := fun _ => True) (nqp hM') rfl | fail))); intro K hK; go_simp; (with_reducible refine hK _ ?_); clear hK K)
  refine wpHeld_nil ?_
  clear hS HM0
  refine wpAllH_done (by kernel_rfl) ?_
  go_wp2_with fail
  go_ret
  exact ⟨rfl, hM.subL (List.sublist_cons_self _ _)⟩
end
end Go.Proofs.YtlidpdjainmaiaaGreatDoor
