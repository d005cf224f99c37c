/- Seat c: slices.Clone at lines. -/
import Derived.Test.YtlidpdjainmaiaaGreatDoorGu
namespace Go.Proofs.YtlidpdjainmaiaaGreatDoor
open Go Go.RowKit Go.Bul Go.Thg Go.Lin Go.Cht
theorem g_zero {α : Type} {e : TypeId} {sz : Nat} {cf : α → List Value} {w w' : World} (A : Option Addr) (h : KeptBut [] w w') : Becomes [] w (gT e sz cf (.slice A 0 0) []) w' :=
  ⟨gT_nil w' e A, h, fun g hg => by rw [show (gT e sz cf (.slice A 0 0) []).fp = [] from sFp_zero] at hg; cases hg⟩
set_option maxRecDepth 20000 in
set_option maxHeartbeats 2000000 in
theorem lclone_any (A : Option Addr) (n c : Nat) (l : List Ln) (w : World) (hr : Reads w 3 A n (rows lnF l)) (hn : n = l.length) (h63 : n ≤ 1000000000) :
    Calls Tryz.prog 24 #[.slice A n c] w fun e w' => ∃ A' c', e = .returned (.slice A' n c') ∧ Becomes [] w (lT (.slice A' n c') l) w' := by
  have hM := Mem.start [] w
  have hq := fun w => Lib.run_eql_slice_nil (P := Tryz.prog) w 29 37 A n c 0 0 Tryz.underlying29
  have HR := Lib.hid hr
  cases A with
  | none =>
    have h0 : n = 0 := by
      rcases Nat.eq_zero_or_pos n with h0 | h0
      · exact h0
      · obtain ⟨_, _, he, _⟩ := hr.2 h0
        cases he
    subst h0
    obtain rfl : l = [] := List.eq_nil_of_length_eq_zero hn.symm
    have hq' : ∀ w, (binOp .eql 29 (.slice none 0 c) (.slice none 0 0)).run Tryz.prog w = .ok (.bool true) w := hq
    clear hr hq h63 hn HR
    go_enter Tryz.func24, Tryz.ntmps24
    go_wp2_with (first | ((first | with_reducible refine at_load ?_ | ((with_reducible refine at_load_g ?_ ?_); (· rfl))); first | refine nll hM ?_ | refine nlc hM ?_ | refine nlp hM ?_) | ((with_reducible refine at_store ?_); first | (refine nlw hM ?_; clear hM; intro wx hM) | (refine nls hM ?_; clear hM; intro wx hM) | (refine nlt hM ?_; clear hM; intro wx hM)) | ((with_reducible refine at_alloc ?_); refine nlz hM ?_; clear hM; intro gx wx hM) | ((with_reducible refine at_box ?_); first | (refine nlb hM ?_; clear hM; intro gx wx hM) | (refine nlx hM ?_; clear hM; intro gx wx hM)))
    go_ret
    exact ⟨none, 0, rfl, g_zero none (KeptBut.refl _ _)⟩
  | some ad =>
    have HN := Lib.hid hn
    clear hr hn
    have hq' : ∀ w, (binOp .eql 29 (.slice (some ad) n c) (.slice none 0 0)).run Tryz.prog w = .ok (.bool false) w := hq
    clear hq
    have M1 := fun (cs : Array Value) (t : TypeId) (g : Addr) => (hM.step ((Below.refl _ _).alloc (Nat.le_refl _) (.cells cs t))).newThing (g_zero (e := 37) (sz := 3) (cf := lnF) (some g) (KeptBut.refl _ _))
    have MM := Lib.hid M1
    have S1 := fun (cs : Array Value) (t : TypeId) => (HR.out.keep ((Below.refl _ _).alloc (Nat.le_refl _) (.cells cs t))).src (c := c) (P := Tryz.prog) (tx := 29) Tryz.underlying29 (rows_ones cf_ln l)
    have SS := Lib.hid S1
    have hle : ([] : List Ln).length + n ≤ 1000000000 := by simpa using h63
    clear M1 S1 hM
    go_enter Tryz.func24, Tryz.ntmps24
    go_wp2_with (first | ((with_reducible refine at_append ?_); refine gap (l := []) (ys := l) (MM.out _ _ _) rt_ln (SS.out _ _) hle ?_; intro A' N c' wx hN hM) | ((first | with_reducible refine at_load ?_ | ((with_reducible refine at_load_g ?_ ?_); (· rfl))); first | refine nll hM ?_ | refine nlc hM ?_ | refine nlp hM ?_) | ((with_reducible refine at_store ?_); first | (refine nlw hM ?_; clear hM; intro wx hM) | (refine nls hM ?_; clear hM; intro wx hM) | (refine nlt hM ?_; clear hM; intro wx hM)) | ((with_reducible refine at_alloc ?_); refine nlz hM ?_; clear hM; intro gx wx hM) | ((with_reducible refine at_box ?_); first | (refine nlb hM ?_; clear hM; intro gx wx hM) | (refine nlx hM ?_; clear hM; intro gx wx hM)))
    have hN' : N = n := by rw [hN.out, HN.out]; rfl
    subst hN'
    go_ret
    exact ⟨A', c', rfl, hM.becomes (by exact List.Mem.head _)⟩
end Go.Proofs.YtlidpdjainmaiaaGreatDoor
