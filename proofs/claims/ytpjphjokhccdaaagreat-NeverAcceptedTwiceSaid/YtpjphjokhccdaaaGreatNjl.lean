/- Seat n: which candidate goes: IndexFunc over the candidates. -/
import Derived.Test.YtpjphjokhccdaaaGreatNjk
namespace Go.Proofs.YtpjphjokhccdaaaGreat
open Go Go.RowKit Go.Bul Go.Thg Go.Lin Go.Maps
abbrev fnsC (gb : Nat) : Array Value := #[.nilFunc, .func (.func 46) #[] #[], .func (.func 47) #[] #[], .func (.func 48) #[] #[.pointer (some ⟨gb, 0, none⟩)]]
section
variable {w w0 : World} {G : List Nat} {L : List Ent} {R : List Thing} {F : Thing → List Thing}
set_option maxRecDepth 20000 in
set_option maxHeartbeats 8000000 in
theorem st4_any (gR gK gb gf pp : Nat) (kind : Nat) (B : Option Addr) (n c bh : Nat) (byt bud : Int) (j : Nat) (d a : Int) (gg : Nat) (b k : Int) (f o m : Bool) (hM : Mem G w0 L R w) (hk : 1 ≤ kind ∧ kind ≤ 3)
    (h1 : ⟨gR, 120, 1, #[.slice (some ⟨gf, 0, none⟩) 4 4]⟩ ∈ L) (h2 : ⟨gK, 3, 1, #[.int .i64 (kind : Nat)]⟩ ∈ L) (h3 : ⟨gf, 119, 4, fnsC gb⟩ ∈ L) (hb : ⟨gb, 90, 1, #[.pointer (some ⟨pp, 0, none⟩)]⟩ ∈ L) (hp : ⟨pp, 108, 4, plC B n c bh byt bud⟩ ∈ L) :
    Calls Tryz.prog 50 #[.agg (stC j (candTl d a gg b k f o m)), .pointer (some ⟨gR, 0, none⟩), .pointer (some ⟨gK, 0, none⟩), .pointer (some ⟨gb, 0, none⟩)] w fun e w' => (∃ b, e = .returned (.bool b)) ∧ Below w.heap.size w w' := by
  have HO := Lib.hid (fun w' (hb : Below w.heap.size w w') => hM.step hb)
  have HPR := Lib.hid (fun w => prot_any pp j d a gg b k f o m w)
  clear hM
  have hM := Mem.start [] w
  rcases (by omega : kind = 1 ∨ kind = 2 ∨ kind = 3) with rfl | rfl | rfl
  · have HR := Lib.hid (fun w (_ : Mem G w0 L R w) => st1_any j d a gg b k f o m w)
    clear hk
    go_enter Tryz.func50, Tryz.ntmps50
    go_upto_region 1 with (first | ((first | with_reducible refine at_load ?_ | ((with_reducible refine at_load_g ?_ ?_); (· rfl))); first | refine nll hM ?_ | refine nlc hM ?_ | refine nlp hM ?_) | ((with_reducible refine at_store ?_); first | (refine nlw hM ?_; clear hM; intro wx hM) | (refine nls hM ?_; clear hM; intro wx hM) | (refine nlt hM ?_; clear hM; intro wx hM)) | ((with_reducible refine at_alloc ?_); refine nlz hM ?_; clear hM; intro gx wx hM) | ((with_reducible refine at_box ?_); first | (refine nlb hM ?_; clear hM; intro gx wx hM) | (refine nlx hM ?_; clear hM; intro gx wx hM)))
    refine wp_region_allHB hM (by kernel_rfl) ?_
    clear hM
    intro wd hM
    have HM0 := Lib.hid hM
    have hS := Below.refl wd.heap.size wd
    refine wpAllH_takes [0, 1, 2, 3, 4] (by kernel_rfl) (fun _ _ _ _ _ h => h) hS (by kernel_rfl) ?_
    simp only [pickOps, List.filterMap_cons, List.filterMap_nil, List.getElem?_cons_zero, List.getElem?_cons_succ]
    repeat ((with_reducible apply wpHeld_step); (· rfl); (· (intro wq hSw; first | (go_simp; rfl) | (have hM' := HM0.out.step hSw; first | exact yields_load (C := fun _ => True) (nqc hM') rfl | exact yields_load (C := fun _ => True) (nql hM') rfl | exact yields_load (C := fun _ => True) (nqp hM') rfl | exact yields_load (C := fun _ => True) (nqc (HO.out _ hM'.below)) rfl))); intro K hK; go_simp; (with_reducible refine hK _ ?_); clear hK K)
    refine wpHeld_nil ?_
    refine wpAllH_one 5 rfl (by kernel_rfl) ?_
    go_wp2_with fail
    refine (HR.out _ (HO.out _ hM.below)).mono ?_
    rintro e w1 ⟨⟨r, rfl⟩, hb⟩
    go_wp2_with fail
    replace hM := hM.step hb
    refine then_normal ⟨hb, ?_⟩
    clear hS
    have hS := hb
    clear hb
    cases r with
    | false =>
      refine wpAllH_takes [6, 7, 8, 9, 10, 11, 12] (by kernel_rfl) (fun _ _ _ _ _ h => h) hS (by kernel_rfl) ?_
      simp only [pickOps, List.filterMap_cons, List.filterMap_nil, List.getElem?_cons_zero, List.getElem?_cons_succ]
      repeat (first | ((with_reducible apply wpHeld_stepG); (· rfl); (· (intro wq hSw; first | (go_simp; rfl) | (have hM' := HM0.out.step hSw; first | exact yields_load (C := fun _ => True) (nqc hM') rfl | exact yields_load (C := fun _ => True) (nql hM') rfl | exact yields_load (C := fun _ => True) (nqp hM') rfl | fail))); intro K hK; go_simp; (with_reducible refine hK _ ?_); clear hK K) | ((with_reducible apply wpHeld_stepU); (· rfl); intro K hK; go_simp; (with_reducible refine hK _ ?_); clear hK K))
      refine wpHeld_nil ?_
      clear hS HM0
      refine wpAllH_done (by kernel_rfl) ?_
      go_wp2_with fail
      go_ret
      exact ⟨⟨_, rfl⟩, hM.below⟩
    | true =>
      refine wpAllH_takes [6, 7, 8] (by kernel_rfl) (fun _ _ _ _ _ h => h) hS (by kernel_rfl) ?_
      simp only [pickOps, List.filterMap_cons, List.filterMap_nil, List.getElem?_cons_zero, List.getElem?_cons_succ]
      repeat (first | ((with_reducible apply wpHeld_stepG); (· rfl); (· (intro wq hSw; first | (go_simp; rfl) | (have hM' := HM0.out.step hSw; first | exact yields_load (C := fun _ => True) (nqc hM') rfl | exact yields_load (C := fun _ => True) (nql hM') rfl | exact yields_load (C := fun _ => True) (nqp hM') rfl | exact yields_load (C := fun _ => True) (nqc (HO.out _ hM'.below)) rfl))); intro K hK; go_simp; (with_reducible refine hK _ ?_); clear hK K) | ((with_reducible apply wpHeld_stepU); (· rfl); intro K hK; go_simp; (with_reducible refine hK _ ?_); clear hK K))
      refine wpHeld_nil ?_
      refine wpAllH_one 9 rfl (by kernel_rfl) ?_
      refine wpList_wanted rfl ?_
      go_wp2_with fail
      refine (HPR.out _).mono ?_
      rintro e w2 ⟨⟨r2, rfl⟩, hb⟩
      go_wp2_with fail
      replace hM := hM.step hb
      replace hS := Below.step hS hb
      clear hb
      refine then_normal ⟨hS, ?_⟩
      refine wpAllH_takes [10, 11, 12] (by kernel_rfl) (fun _ _ _ _ _ h => h) hS (by kernel_rfl) ?_
      simp only [pickOps, List.filterMap_cons, List.filterMap_nil, List.getElem?_cons_zero, List.getElem?_cons_succ]
      repeat (first | ((with_reducible apply wpHeld_stepG); (· rfl); (· (intro wq hSw; first | (go_simp; rfl) | (have hM' := HM0.out.step hSw; first | exact yields_load (C := fun _ => True) (nqc hM') rfl | exact yields_load (C := fun _ => True) (nql hM') rfl | exact yields_load (C := fun _ => True) (nqp hM') rfl | fail))); intro K hK; go_simp; (with_reducible refine hK _ ?_); clear hK K) | ((with_reducible apply wpHeld_stepU); (· rfl); intro K hK; go_simp; (with_reducible refine hK _ ?_); clear hK K))
      refine wpHeld_nil ?_
      clear hS HM0
      refine wpAllH_done (by kernel_rfl) ?_
      go_wp2_with fail
      go_ret
      exact ⟨⟨_, rfl⟩, hM.below⟩
  · have HR := Lib.hid (fun w (_ : Mem G w0 L R w) => st2_any j d a gg b k f o m w)
    clear hk
    go_enter Tryz.func50, Tryz.ntmps50
    go_upto_region 1 with (first | ((first | with_reducible refine at_load ?_ | ((with_reducible refine at_load_g ?_ ?_); (· rfl))); first | refine nll hM ?_ | refine nlc hM ?_ | refine nlp hM ?_) | ((with_reducible refine at_store ?_); first | (refine nlw hM ?_; clear hM; intro wx hM) | (refine nls hM ?_; clear hM; intro wx hM) | (refine nlt hM ?_; clear hM; intro wx hM)) | ((with_reducible refine at_alloc ?_); refine nlz hM ?_; clear hM; intro gx wx hM) | ((with_reducible refine at_box ?_); first | (refine nlb hM ?_; clear hM; intro gx wx hM) | (refine nlx hM ?_; clear hM; intro gx wx hM)))
    refine wp_region_allHB hM (by kernel_rfl) ?_
    clear hM
    intro wd hM
    have HM0 := Lib.hid hM
    have hS := Below.refl wd.heap.size wd
    refine wpAllH_takes [0, 1, 2, 3, 4] (by kernel_rfl) (fun _ _ _ _ _ h => h) hS (by kernel_rfl) ?_
    simp only [pickOps, List.filterMap_cons, List.filterMap_nil, List.getElem?_cons_zero, List.getElem?_cons_succ]
    repeat ((with_reducible apply wpHeld_step); (· rfl); (· (intro wq hSw; first | (go_simp; rfl) | (have hM' := HM0.out.step hSw; first | exact yields_load (C := fun _ => True) (nqc hM') rfl | exact yields_load (C := fun _ => True) (nql hM') rfl | exact yields_load (C := fun _ => True) (nqp hM') rfl | exact yields_load (C := fun _ => True) (nqc (HO.out _ hM'.below)) rfl))); intro K hK; go_simp; (with_reducible refine hK _ ?_); clear hK K)
    refine wpHeld_nil ?_
    refine wpAllH_one 5 rfl (by kernel_rfl) ?_
    go_wp2_with fail
    refine (HR.out _ (HO.out _ hM.below)).mono ?_
    rintro e w1 ⟨⟨r, rfl⟩, hb⟩
    go_wp2_with fail
    replace hM := hM.step hb
    refine then_normal ⟨hb, ?_⟩
    clear hS
    have hS := hb
    clear hb
    cases r with
    | false =>
      refine wpAllH_takes [6, 7, 8, 9, 10, 11, 12] (by kernel_rfl) (fun _ _ _ _ _ h => h) hS (by kernel_rfl) ?_
      simp only [pickOps, List.filterMap_cons, List.filterMap_nil, List.getElem?_cons_zero, List.getElem?_cons_succ]
      repeat (first | ((with_reducible apply wpHeld_stepG); (· rfl); (· (intro wq hSw; first | (go_simp; rfl) | (have hM' := HM0.out.step hSw; first | exact yields_load (C := fun _ => True) (nqc hM') rfl | exact yields_load (C := fun _ => True) (nql hM') rfl | exact yields_load (C := fun _ => True) (nqp hM') rfl | fail))); intro K hK; go_simp; (with_reducible refine hK _ ?_); clear hK K) | ((with_reducible apply wpHeld_stepU); (· rfl); intro K hK; go_simp; (with_reducible refine hK _ ?_); clear hK K))
      refine wpHeld_nil ?_
      clear hS HM0
      refine wpAllH_done (by kernel_rfl) ?_
      go_wp2_with fail
      go_ret
      exact ⟨⟨_, rfl⟩, hM.below⟩
    | true =>
      refine wpAllH_takes [6, 7, 8] (by kernel_rfl) (fun _ _ _ _ _ h => h) hS (by kernel_rfl) ?_
      simp only [pickOps, List.filterMap_cons, List.filterMap_nil, List.getElem?_cons_zero, List.getElem?_cons_succ]
      repeat (first | ((with_reducible apply wpHeld_stepG); (· rfl); (· (intro wq hSw; first | (go_simp; rfl) | (have hM' := HM0.out.step hSw; first | exact yields_load (C := fun _ => True) (nqc hM') rfl | exact yields_load (C := fun _ => True) (nql hM') rfl | exact yields_load (C := fun _ => True) (nqp hM') rfl | exact yields_load (C := fun _ => True) (nqc (HO.out _ hM'.below)) rfl))); intro K hK; go_simp; (with_reducible refine hK _ ?_); clear hK K) | ((with_reducible apply wpHeld_stepU); (· rfl); intro K hK; go_simp; (with_reducible refine hK _ ?_); clear hK K))
      refine wpHeld_nil ?_
      refine wpAllH_one 9 rfl (by kernel_rfl) ?_
      refine wpList_wanted rfl ?_
      go_wp2_with fail
      refine (HPR.out _).mono ?_
      rintro e w2 ⟨⟨r2, rfl⟩, hb⟩
      go_wp2_with fail
      replace hM := hM.step hb
      replace hS := Below.step hS hb
      clear hb
      refine then_normal ⟨hS, ?_⟩
      refine wpAllH_takes [10, 11, 12] (by kernel_rfl) (fun _ _ _ _ _ h => h) hS (by kernel_rfl) ?_
      simp only [pickOps, List.filterMap_cons, List.filterMap_nil, List.getElem?_cons_zero, List.getElem?_cons_succ]
      repeat (first | ((with_reducible apply wpHeld_stepG); (· rfl); (· (intro wq hSw; first | (go_simp; rfl) | (have hM' := HM0.out.step hSw; first | exact yields_load (C := fun _ => True) (nqc hM') rfl | exact yields_load (C := fun _ => True) (nql hM') rfl | exact yields_load (C := fun _ => True) (nqp hM') rfl | fail))); intro K hK; go_simp; (with_reducible refine hK _ ?_); clear hK K) | ((with_reducible apply wpHeld_stepU); (· rfl); intro K hK; go_simp; (with_reducible refine hK _ ?_); clear hK K))
      refine wpHeld_nil ?_
      clear hS HM0
      refine wpAllH_done (by kernel_rfl) ?_
      go_wp2_with fail
      go_ret
      exact ⟨⟨_, rfl⟩, hM.below⟩
  · have HR := Lib.hid (fun w (hM : Mem G w0 L R w) => st3_any gb pp B n c bh byt bud j d a gg b k f o m hM hb hp)
    clear hk
    go_enter Tryz.func50, Tryz.ntmps50
    go_upto_region 1 with (first | ((first | with_reducible refine at_load ?_ | ((with_reducible refine at_load_g ?_ ?_); (· rfl))); first | refine nll hM ?_ | refine nlc hM ?_ | refine nlp hM ?_) | ((with_reducible refine at_store ?_); first | (refine nlw hM ?_; clear hM; intro wx hM) | (refine nls hM ?_; clear hM; intro wx hM) | (refine nlt hM ?_; clear hM; intro wx hM)) | ((with_reducible refine at_alloc ?_); refine nlz hM ?_; clear hM; intro gx wx hM) | ((with_reducible refine at_box ?_); first | (refine nlb hM ?_; clear hM; intro gx wx hM) | (refine nlx hM ?_; clear hM; intro gx wx hM)))
    refine wp_region_allHB hM (by kernel_rfl) ?_
    clear hM
    intro wd hM
    have HM0 := Lib.hid hM
    have hS := Below.refl wd.heap.size wd
    refine wpAllH_takes [0, 1, 2, 3, 4] (by kernel_rfl) (fun _ _ _ _ _ h => h) hS (by kernel_rfl) ?_
    simp only [pickOps, List.filterMap_cons, List.filterMap_nil, List.getElem?_cons_zero, List.getElem?_cons_succ]
    repeat ((with_reducible apply wpHeld_step); (· rfl); (· (intro wq hSw; first | (go_simp; rfl) | (have hM' := HM0.out.step hSw; first | exact yields_load (C := fun _ => True) (nqc hM') rfl | exact yields_load (C := fun _ => True) (nql hM') rfl | exact yields_load (C := fun _ => True) (nqp hM') rfl | exact yields_load (C := fun _ => True) (nqc (HO.out _ hM'.below)) rfl))); intro K hK; go_simp; (with_reducible refine hK _ ?_); clear hK K)
    refine wpHeld_nil ?_
    refine wpAllH_one 5 rfl (by kernel_rfl) ?_
    go_wp2_with fail
    refine (HR.out _ (HO.out _ hM.below)).mono ?_
    rintro e w1 ⟨⟨r, rfl⟩, hb⟩
    go_wp2_with fail
    replace hM := hM.step hb
    refine then_normal ⟨hb, ?_⟩
    clear hS
    have hS := hb
    clear hb
    cases r with
    | false =>
      refine wpAllH_takes [6, 7, 8, 9, 10, 11, 12] (by kernel_rfl) (fun _ _ _ _ _ h => h) hS (by kernel_rfl) ?_
      simp only [pickOps, List.filterMap_cons, List.filterMap_nil, List.getElem?_cons_zero, List.getElem?_cons_succ]
      repeat (first | ((with_reducible apply wpHeld_stepG); (· rfl); (· (intro wq hSw; first | (go_simp; rfl) | (have hM' := HM0.out.step hSw; first | exact yields_load (C := fun _ => True) (nqc hM') rfl | exact yields_load (C := fun _ => True) (nql hM') rfl | exact yields_load (C := fun _ => True) (nqp hM') rfl | fail))); intro K hK; go_simp; (with_reducible refine hK _ ?_); clear hK K) | ((with_reducible apply wpHeld_stepU); (· rfl); intro K hK; go_simp; (with_reducible refine hK _ ?_); clear hK K))
      refine wpHeld_nil ?_
      clear hS HM0
      refine wpAllH_done (by kernel_rfl) ?_
      go_wp2_with fail
      go_ret
      exact ⟨⟨_, rfl⟩, hM.below⟩
    | true =>
      refine wpAllH_takes [6, 7, 8] (by kernel_rfl) (fun _ _ _ _ _ h => h) hS (by kernel_rfl) ?_
      simp only [pickOps, List.filterMap_cons, List.filterMap_nil, List.getElem?_cons_zero, List.getElem?_cons_succ]
      repeat (first | ((with_reducible apply wpHeld_stepG); (· rfl); (· (intro wq hSw; first | (go_simp; rfl) | (have hM' := HM0.out.step hSw; first | exact yields_load (C := fun _ => True) (nqc hM') rfl | exact yields_load (C := fun _ => True) (nql hM') rfl | exact yields_load (C := fun _ => True) (nqp hM') rfl | exact yields_load (C := fun _ => True) (nqc (HO.out _ hM'.below)) rfl))); intro K hK; go_simp; (with_reducible refine hK _ ?_); clear hK K) | ((with_reducible apply wpHeld_stepU); (· rfl); intro K hK; go_simp; (with_reducible refine hK _ ?_); clear hK K))
      refine wpHeld_nil ?_
      refine wpAllH_one 9 rfl (by kernel_rfl) ?_
      refine wpList_wanted rfl ?_
      go_wp2_with fail
      refine (HPR.out _).mono ?_
      rintro e w2 ⟨⟨r2, rfl⟩, hb⟩
      go_wp2_with fail
      replace hM := hM.step hb
      replace hS := Below.step hS hb
      clear hb
      refine then_normal ⟨hS, ?_⟩
      refine wpAllH_takes [10, 11, 12] (by kernel_rfl) (fun _ _ _ _ _ h => h) hS (by kernel_rfl) ?_
      simp only [pickOps, List.filterMap_cons, List.filterMap_nil, List.getElem?_cons_zero, List.getElem?_cons_succ]
      repeat (first | ((with_reducible apply wpHeld_stepG); (· rfl); (· (intro wq hSw; first | (go_simp; rfl) | (have hM' := HM0.out.step hSw; first | exact yields_load (C := fun _ => True) (nqc hM') rfl | exact yields_load (C := fun _ => True) (nql hM') rfl | exact yields_load (C := fun _ => True) (nqp hM') rfl | fail))); intro K hK; go_simp; (with_reducible refine hK _ ?_); clear hK K) | ((with_reducible apply wpHeld_stepU); (· rfl); intro K hK; go_simp; (with_reducible refine hK _ ?_); clear hK K))
      refine wpHeld_nil ?_
      clear hS HM0
      refine wpAllH_done (by kernel_rfl) ?_
      go_wp2_with fail
      go_ret
      exact ⟨⟨_, rfl⟩, hM.below⟩
set_option maxRecDepth 20000 in
set_option maxHeartbeats 8000000 in
theorem idxCand_any (gR gK gb gf pp : Nat) (kind : Nat) (B : Option Addr) (n c bh : Nat) (byt bud : Int) (cl : List El) (hM : Mem G w0 L R w) (hk : 1 ≤ kind ∧ kind ≤ 3) (hl : cl.length ≤ 11) (hok : ∀ x ∈ cl, CandOk R x)
    (h1 : ⟨gR, 120, 1, #[.slice (some ⟨gf, 0, none⟩) 4 4]⟩ ∈ L) (h2 : ⟨gK, 3, 1, #[.int .i64 (kind : Nat)]⟩ ∈ L) (h3 : ⟨gf, 119, 4, fnsC gb⟩ ∈ L) (hb : ⟨gb, 90, 1, #[.pointer (some ⟨pp, 0, none⟩)]⟩ ∈ L) (hp : ⟨pp, 108, 4, plC B n c bh byt bud⟩ ∈ L) (hT : elT 113 10 (.slice B n c) cl ∈ R) :
    Calls Tryz.prog 49 #[.slice B n c, .func (.func 50) #[] #[.pointer (some ⟨gR, 0, none⟩), .pointer (some ⟨gK, 0, none⟩), .pointer (some ⟨gb, 0, none⟩)]] w fun e w' => (∃ z : Int, e = .returned (.int .i64 z) ∧ (z = -1 ∨ ∃ i : Nat, i < n ∧ z = (i : Nat))) ∧ Mem G w0 L R w' := by
  have hn := (elT_len (hM.thing _ hT)).1
  have HN := Lib.hid hn
  have HT := Lib.hid hT
  have HOK := Lib.hid hok
  have HS := Lib.hid (fun w (hM : Mem G w0 L R w) j d a gg b k f o m => st4_any (w := w) gR gK gb gf pp kind B n c bh byt bud j d a gg b k f o m hM hk h1 h2 h3 hb hp)
  have n11 : n ≤ 11 := by omega
  clear hok hT hl hn h1 h2 h3 hb hp hk
  go_enter Tryz.func49, Tryz.ntmps49
  go_wp2_with fail
  have M0 := Lib.hid hM
  clear hM
  go_loopw [8] (fun i wr => ∃ k : Nat, k ≤ n ∧ i = .int .i64 (k : Nat) ∧ Mem G w0 L R wr) (fun i _ => n - (intOf i).toNat)
  case atStart => exact ⟨0, Nat.zero_le _, rfl, M0.out⟩
  case round =>
    clear M0
    obtain ⟨k, hk, rfl, hM⟩ := hrel
    have k0 : (0 : Int) ≤ (k : Int) := Int.natCast_nonneg _
    have k1 : (k : Int) ≤ 11 := by omega
    by_cases hlt : k < n
    · have hlt' : (k : Int) < (n : Int) := by omega
      have hkl : k < cl.length := by have := HN.out; omega
      obtain ⟨g, off', rfl, _, hcell⟩ := elT_at (hM.thing _ HT.out) k hkl
      have HX := Lib.hid (hcell k hkl)
      obtain ⟨hj, d, a, gg, b, kk, f, o, m, htl, _⟩ := HOK.out _ (List.getElem_mem hkl)
      have e : elC cl[k] = stC (cl[k]).1 (candTl d a gg b kk f o m) := by unfold elC; rw [htl]
      rw [e] at HX
      clear htl hj e hcell
      generalize (cl[k]).1 = j at HX
      clear hkl
      go_wp2_with (first | ((with_reducible refine at_load ?_); refine nlr HX.out ?_ (hty := row_cand)) | ((with_reducible refine (HS.out _ hM _ _ _ _ _ _ _ _ _).mono ?_); rintro e w1 ⟨⟨r, rfl⟩, hb⟩; replace hM := hM.step hb; clear hb; cases r) | ((first | with_reducible refine at_load ?_ | ((with_reducible refine at_load_g ?_ ?_); (· rfl))); first | refine nll hM ?_ | refine nlc hM ?_ | refine nlp hM ?_) | ((with_reducible refine at_store ?_); first | (refine nlw hM ?_; clear hM; intro wx hM) | (refine nls hM ?_; clear hM; intro wx hM) | (refine nlt hM ?_; clear hM; intro wx hM)) | ((with_reducible refine at_alloc ?_); refine nlz hM ?_; clear hM; intro gx wx hM) | ((with_reducible refine at_box ?_); first | (refine nlb hM ?_; clear hM; intro gx wx hM) | (refine nlx hM ?_; clear hM; intro gx wx hM)))
      · exact ⟨⟨k + 1, by omega, by go_num, hM⟩, by simp [intOf]; omega⟩
      · go_ret
        exact ⟨⟨_, rfl, .inr ⟨k, hlt, rfl⟩⟩, hM⟩
    · obtain rfl : k = n := by omega
      go_wp2_with fail
      go_ret
      exact ⟨⟨_, rfl, .inl rfl⟩, hM⟩
end
end Go.Proofs.YtpjphjokhccdaaaGreat
