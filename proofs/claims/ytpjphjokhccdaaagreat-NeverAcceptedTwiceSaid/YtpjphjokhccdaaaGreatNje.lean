/- Seat n: expiry: days, what is permanent, what holds. -/
import Derived.Test.YtpjphjokhccdaaaGreatNjd
namespace Go.Proofs.YtpjphjokhccdaaaGreat
open Go Go.RowKit Go.Bul Go.Thg Go.Lin Go.Maps
abbrev artTl (d a : Int) (gg : Nat) (b k : Int) : List Value := [.int .i64 d, .int .i64 a, .slice (some ⟨gg, 0, none⟩) 1 1, .int .i64 b, .int .i64 k, .slice none 0 0, .bool false]
abbrev grpT (gg : Nat) : Thing := rowT 9 1 (.slice (some ⟨gg, 0, none⟩) 1 1) 1 [.string abB]
theorem grp_at {gg : Nat} {w : World} (h : (grpT gg).P w) : w.cell? ⟨gg, 0, none⟩ = some (.string abB) := by
  obtain ⟨g, o, hA, _, h1, _⟩ := OffRow.cells h (by omega)
  injection hA with hA
  injection hA with h2 h3
  subst h2 h3
  exact h1 0 _ rfl
section
variable {w w0 : World} {G : List Nat} {L : List Ent} {R : List Thing} {F : Thing → List Thing}
set_option maxRecDepth 20000 in
theorem perm_any (k : Int) (w : World) : Calls Tryz.prog 39 #[.int .i64 k] w fun e w' => (∃ b, e = .returned (.bool b)) ∧ w = w' := by
  by_cases h3 : k = 3
  · subst h3
    go_enter Tryz.func39, Tryz.ntmps39
    go_wp2_with fail
    go_ret
    exact ⟨⟨_, rfl⟩, rfl⟩
  · have c3 : (k == 3) = false := by simpa using h3
    by_cases h4 : k = 4
    · subst h4
      go_enter Tryz.func39, Tryz.ntmps39
      go_wp2_with fail
      go_ret
      exact ⟨⟨_, rfl⟩, rfl⟩
    · have c4 : (k == 4) = false := by simpa using h4
      clear h3 h4
      go_enter Tryz.func39, Tryz.ntmps39
      go_wp2_with fail
      go_ret
      exact ⟨⟨_, rfl⟩, rfl⟩
set_option maxRecDepth 20000 in
theorem holds_any (j : Nat) (d a : Int) (gg : Nat) (b k : Int) (w : World) : Calls Tryz.prog 40 #[.agg (stC j (artTl d a gg b k))] w fun e w' => (∃ b, e = .returned (.bool b)) ∧ Below w.heap.size w w' := by
  have hM := Mem.start [] w
  by_cases h3 : k = 0
  · subst h3
    go_enter Tryz.func40, Tryz.ntmps40
    go_wp2_with (first | ((first | with_reducible refine at_load ?_ | ((with_reducible refine at_load_g ?_ ?_); (· rfl))); first | refine nll hM ?_ | refine nlc hM ?_ | refine nlp hM ?_) | ((with_reducible refine at_store ?_); first | (refine nlw hM ?_; clear hM; intro wx hM) | (refine nls hM ?_; clear hM; intro wx hM) | (refine nlt hM ?_; clear hM; intro wx hM)) | ((with_reducible refine at_alloc ?_); refine nlz hM ?_; clear hM; intro gx wx hM) | ((with_reducible refine at_box ?_); first | (refine nlb hM ?_; clear hM; intro gx wx hM) | (refine nlx hM ?_; clear hM; intro gx wx hM)))
    go_ret
    exact ⟨⟨_, rfl⟩, hM.below⟩
  · have c3 : (k != 0) = true := by simpa using h3
    clear h3
    go_enter Tryz.func40, Tryz.ntmps40
    go_wp2_with (first | ((first | with_reducible refine at_load ?_ | ((with_reducible refine at_load_g ?_ ?_); (· rfl))); first | refine nll hM ?_ | refine nlc hM ?_ | refine nlp hM ?_) | ((with_reducible refine at_store ?_); first | (refine nlw hM ?_; clear hM; intro wx hM) | (refine nls hM ?_; clear hM; intro wx hM) | (refine nlt hM ?_; clear hM; intro wx hM)) | ((with_reducible refine at_alloc ?_); refine nlz hM ?_; clear hM; intro gx wx hM) | ((with_reducible refine at_box ?_); first | (refine nlb hM ?_; clear hM; intro gx wx hM) | (refine nlx hM ?_; clear hM; intro gx wx hM)))
    go_ret
    exact ⟨⟨_, rfl⟩, hM.below⟩
set_option maxRecDepth 20000 in
theorem lasth_any (j : Nat) (d a : Int) (gg : Nat) (b k : Int) (w : World) : Calls Tryz.prog 41 #[.agg (stC j (artTl d a gg b k))] w fun e w' => (∃ z, e = .returned (.int .i64 z)) ∧ Below w.heap.size w w' := by
  have hM := Mem.start [] w
  go_enter Tryz.func41, Tryz.ntmps41
  go_wp2_with (first | ((first | with_reducible refine at_load ?_ | ((with_reducible refine at_load_g ?_ ?_); (· rfl))); first | refine nll hM ?_ | refine nlc hM ?_ | refine nlp hM ?_) | ((with_reducible refine at_store ?_); first | (refine nlw hM ?_; clear hM; intro wx hM) | (refine nls hM ?_; clear hM; intro wx hM) | (refine nlt hM ?_; clear hM; intro wx hM)) | ((with_reducible refine at_alloc ?_); refine nlz hM ?_; clear hM; intro gx wx hM) | ((with_reducible refine at_box ?_); first | (refine nlb hM ?_; clear hM; intro gx wx hM) | (refine nlx hM ?_; clear hM; intro gx wx hM)))
  go_ret
  exact ⟨⟨_, rfl⟩, hM.below⟩
set_option maxRecDepth 20000 in
set_option maxHeartbeats 4000000 in
theorem days_any (gr gp ge off c gq oq d : Nat) (lo hi : Int) (j : Nat) (da ar : Int) (gg : Nat) (b k : Int) (h0 : 0 ≤ lo) (h1 : 0 ≤ hi) (hM : Mem G w0 L R w) (hL : ⟨gr, 33, 3, ruleC lo hi⟩ ∈ L) (hp : ⟨gp, 128, 2, patC starB ge off c⟩ ∈ L) (hE : eleT (some ⟨ge, off, none⟩) c ∈ R) (hQ : patsT (some ⟨gq, oq, none⟩) d gp ∈ R) (hG : grpT gg ∈ R) :
    Calls Tryz.prog 38 #[.agg (rulesC gr (some ⟨gq, oq, none⟩) d), .agg (stC j (artTl da ar gg b k))] w fun e w' => e = .returned (.tuple #[.int .i64 lo, .int .i64 hi]) ∧ Mem G w0 L R w' := by
  have HL := Lib.hid hL
  have HP := Lib.hid hp
  have HG := Lib.hid hG
  have HO := Lib.hid (fun (L : List Ent) (w : World) (hM : Mem G w0 L R w) (hL : (⟨gr, 33, 3, ruleC lo hi⟩ : Ent) ∈ L) (hp : (⟨gp, 128, 2, patC starB ge off c⟩ : Ent) ∈ L) => rof_any gr gp ge off c gq oq d lo hi hM hL hp hE hQ)
  have M1 := Lib.hid (show (if 0 < lo then lo else 0) = lo by split <;> omega)
  have M2 := Lib.hid (show (if 0 < hi then hi else 0) = hi by split <;> omega)
  clear hL hp hE hQ hG
  go_enter Tryz.func38, Tryz.ntmps38
  go_wp2_with (first | ((first | with_reducible refine at_load ?_ | ((with_reducible refine at_load_g ?_ ?_); (· rfl))); first | refine nll hM ?_ | refine nlc hM ?_ | refine nlp hM ?_) | ((with_reducible refine at_store ?_); first | (refine nlw hM ?_; clear hM; intro wx hM) | (refine nls hM ?_; clear hM; intro wx hM) | (refine nlt hM ?_; clear hM; intro wx hM)) | ((with_reducible refine at_alloc ?_); refine nlz hM ?_; clear hM; intro gx wx hM) | ((with_reducible refine at_box ?_); first | (refine nlb hM ?_; clear hM; intro gx wx hM) | (refine nlx hM ?_; clear hM; intro gx wx hM)))
  obtain ⟨g3, hg3⟩ := hM.name1
  subst hg3
  have M0 := Lib.hid hM
  clear hM
  go_loopw [4, 5, 16] (fun u v i wr => ((u = .int .i64 0 ∧ v = .int .i64 0 ∧ i = .int .i64 0) ∨ (u = .int .i64 lo ∧ v = .int .i64 hi ∧ i = .int .i64 1)) ∧ Mem G w0 (⟨g3, 51, 39, stC j (artTl da ar gg b k)⟩ :: ⟨gx, 77, 2, rulesC gr (some ⟨gq, oq, none⟩) d⟩ :: L) R wr) (fun _ _ i _ => 1 - (intOf i).toNat)
  case atStart => exact ⟨.inl ⟨rfl, rfl, rfl⟩, M0.out⟩
  case round =>
    clear M0
    obtain ⟨⟨rfl, rfl, rfl⟩ | ⟨rfl, rfl, rfl⟩, hM⟩ := hrel
    · have hc := Lib.hid (fun L w (hM : Mem G w0 L R w) => grp_at (hM.thing _ HG.out))
      go_upto_region 7 with (first | ((with_reducible refine at_load ?_); refine nlo (hc.out _ _ hM) ?_) | ((with_reducible refine (HO.out _ _ hM (List.Mem.tail _ (List.Mem.tail _ HL.out)) (List.Mem.tail _ (List.Mem.tail _ HP.out))).mono ?_); rintro e w1 ⟨rfl, hM1⟩; clear hM; have hM := hM1; clear hM1) | ((first | with_reducible refine at_load ?_ | ((with_reducible refine at_load_g ?_ ?_); (· rfl))); first | refine nll hM ?_ | refine nlc hM ?_ | refine nlp hM ?_) | ((with_reducible refine at_store ?_); first | (refine nlw hM ?_; clear hM; intro wx hM) | (refine nls hM ?_; clear hM; intro wx hM) | (refine nlt hM ?_; clear hM; intro wx hM)) | ((with_reducible refine at_alloc ?_); refine nlz hM ?_; clear hM; intro gx wx hM) | ((with_reducible refine at_box ?_); first | (refine nlb hM ?_; clear hM; intro gx wx hM) | (refine nlx hM ?_; clear hM; intro gx wx hM)))
      refine wp_region_allHB hM (by kernel_rfl) ?_
      clear hM
      intro wd hM
      have HM0 := Lib.hid hM
      have hS := Below.refl wd.heap.size wd
      refine wpAllH_takes [0, 1, 4, 5, 2, 6, 3, 7, 8, 9] (by kernel_rfl) (fun _ _ _ _ _ h => h) hS (by kernel_rfl) ?_
      simp only [pickOps, List.filterMap_cons, List.filterMap_nil, List.getElem?_cons_zero, List.getElem?_cons_succ]
      repeat ((with_reducible apply wpHeld_step); (· rfl); (· (intro wq hSw; first | (go_simp; rfl) | (have hM' := HM0.out.step hSw; first | exact yields_load (C := fun _ => True) (nqc hM') rfl | exact yields_load (C := fun _ => True) (nql hM') rfl | exact yields_load (C := fun _ => True) (nqp hM') rfl | fail))); intro K hK; go_simp; (with_reducible refine hK _ ?_); clear hK K)
      refine wpHeld_nil ?_
      clear hS HM0
      refine wpAllH_done (by kernel_rfl) ?_
      go_wp2_with fail
      exact ⟨⟨.inr ⟨by rw [M1.out], by rw [M2.out], rfl⟩, hM.subL (by repeat (first | exact List.Sublist.refl _ | exact List.nil_sublist _ | apply List.Sublist.cons_cons | apply List.Sublist.cons))⟩, by simp [intOf]⟩
    · go_wp2_with (first | ((first | with_reducible refine at_load ?_ | ((with_reducible refine at_load_g ?_ ?_); (· rfl))); first | refine nll hM ?_ | refine nlc hM ?_ | refine nlp hM ?_) | ((with_reducible refine at_store ?_); first | (refine nlw hM ?_; clear hM; intro wx hM) | (refine nls hM ?_; clear hM; intro wx hM) | (refine nlt hM ?_; clear hM; intro wx hM)) | ((with_reducible refine at_alloc ?_); refine nlz hM ?_; clear hM; intro gx wx hM) | ((with_reducible refine at_box ?_); first | (refine nlb hM ?_; clear hM; intro gx wx hM) | (refine nlx hM ?_; clear hM; intro gx wx hM)))
      go_ret2
      exact ⟨rfl, hM.subL (by repeat (first | exact List.Sublist.refl _ | exact List.nil_sublist _ | apply List.Sublist.cons_cons | apply List.Sublist.cons))⟩
end
end Go.Proofs.YtpjphjokhccdaaaGreat
