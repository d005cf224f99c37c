/- Seat n: expiry: compile, Check, of, days. -/
import Derived.Test.YtpjphjokhccdaaaGreatNjc
namespace Go.Proofs.YtpjphjokhccdaaaGreat
open Go Go.RowKit Go.Bul Go.Thg Go.Lin Go.Maps
abbrev ruleC (lo hi : Int) : Array Value := #[.string starB, .int .i64 lo, .int .i64 hi]
abbrev patsT (P : Option Addr) (c gp : Nat) : Thing := rowT 99 1 (.slice P 1 c) 1 [.pointer (some ⟨gp, 0, none⟩)]
theorem run_rules (gr : Nat) (w : World) : (Instr.build 77 #[(0, .slice (some ⟨gr, 0, none⟩) 1 1)]).run Tryz.prog w = .ok (.agg #[.slice (some ⟨gr, 0, none⟩) 1 1, .slice none 0 0]) w := by kernel_rfl
section
variable {w w0 : World} {G : List Nat} {L : List Ent} {R : List Thing} {F : Thing → List Thing}
set_option maxRecDepth 20000 in
set_option maxHeartbeats 4000000 in
theorem compile_any (gr : Nat) (lo hi : Int) (h0 : 0 ≤ lo) (h1 : lo ≤ hi) (h2 : hi ≤ 36500) (hM : Mem G w0 L R w) (hL : ⟨gr, 33, 3, ruleC lo hi⟩ ∈ L) :
    Calls Tryz.prog 19 #[.slice (some ⟨gr, 0, none⟩) 1 1] w fun e w' => ∃ gp ge off c P d, e = .returned (.tuple #[.agg #[.slice (some ⟨gr, 0, none⟩) 1 1, .slice P 1 d], .int .i64 0]) ∧ Mem G w0 (⟨gp, 128, 2, patC starB ge off c⟩ :: L) (patsT P d gp :: eleT (some ⟨ge, off, none⟩) c :: R) w' := by
  have HC := Lib.hid (fun w => wcompile_any w)
  have HL := Lib.hid hL
  have c1 : decide (lo < 0) = false := decide_eq_false (by omega)
  have c2 : decide (hi < lo) = false := decide_eq_false (by omega)
  have c3 : decide (36500 < hi) = false := decide_eq_false (by omega)
  clear h0 h1 h2
  go_enter Tryz.func19, Tryz.ntmps19
  go_wp2_with (first | ((with_reducible refine at_build ?_); refine wpList_build_run rfl _ _ rfl _ rfl _ (run_rules gr _) ?_) | ((first | with_reducible refine at_load ?_ | ((with_reducible refine at_load_g ?_ ?_); (· rfl))); first | refine nll hM ?_ | refine nlc hM ?_ | refine nlp hM ?_) | ((with_reducible refine at_store ?_); first | (refine nlw hM ?_; clear hM; intro wx hM) | (refine nls hM ?_; clear hM; intro wx hM) | (refine nlt hM ?_; clear hM; intro wx hM)) | ((with_reducible refine at_alloc ?_); refine nlz hM ?_; clear hM; intro gx wx hM) | ((with_reducible refine at_box ?_); first | (refine nlb hM ?_; clear hM; intro gx wx hM) | (refine nlx hM ?_; clear hM; intro gx wx hM)))
  obtain ⟨g4, hg4⟩ := hM.name1
  subst hg4
  have M0 := Lib.hid hM
  clear hM hL
  go_loopw [18] (fun i wr => (i = .int .i64 0 ∧ Mem G w0 (⟨g4, 77, 2, #[.slice (some ⟨gr, 0, none⟩) 1 1, .slice none 0 0]⟩ :: ⟨gx, 77, 2, #[.slice none 0 0, .slice none 0 0]⟩ :: L) R wr) ∨ (i = .int .i64 1 ∧ ∃ gp ge off c P d, Mem G w0 (⟨gp, 128, 2, patC starB ge off c⟩ :: ⟨g4, 77, 2, #[.slice (some ⟨gr, 0, none⟩) 1 1, .slice P 1 d]⟩ :: ⟨gx, 77, 2, #[.slice none 0 0, .slice none 0 0]⟩ :: L) (patsT P d gp :: eleT (some ⟨ge, off, none⟩) c :: R) wr)) (fun i _ => 1 - (intOf i).toNat)
  case atStart => exact .inl ⟨rfl, M0.out⟩
  case round =>
    clear M0
    obtain ⟨rfl, hM⟩ | ⟨rfl, gp, ge, off, c, P, d, hM⟩ := hrel
    · go_wp2_with (first | ((with_reducible refine at_load ?_); refine nll hM ?_ (hL := List.Mem.tail _ (List.Mem.tail _ HL.out))) | ((with_reducible refine (HC.out _).mono ?_); rintro e w1 ⟨gp, ge, off, c, rfl, hC⟩; have hM1 := hM.frame hC; simp only [List.cons_append, List.nil_append] at hM1; clear hM hC; have hM := Mem.rowNil hM1 99 1; clear hM1) | ((with_reducible refine at_bslice ?_); refine nbo (v := .pointer (some ⟨gp, 0, none⟩)) hM oel_patt ?_; clear hM; intro gb wb hM) | ((with_reducible refine at_append ?_); refine nao (xs := []) (m := 0) (v := .pointer (some ⟨gp, 0, none⟩)) hM oel_patt (by omega) ?_; clear hM; intro A' N' c' wz HN hM; obtain rfl := HN.out) | ((first | with_reducible refine at_load ?_ | ((with_reducible refine at_load_g ?_ ?_); (· rfl))); first | refine nll hM ?_ | refine nlc hM ?_ | refine nlp hM ?_) | ((with_reducible refine at_store ?_); first | (refine nlw hM ?_; clear hM; intro wx hM) | (refine nls hM ?_; clear hM; intro wx hM) | (refine nlt hM ?_; clear hM; intro wx hM)) | ((with_reducible refine at_alloc ?_); refine nlz hM ?_; clear hM; intro gx wx hM) | ((with_reducible refine at_box ?_); first | (refine nlb hM ?_; clear hM; intro gx wx hM) | (refine nlx hM ?_; clear hM; intro gx wx hM)))
      exact ⟨.inr ⟨rfl, gp, ge, off, c, A', c', hM.subL (by repeat (first | exact List.Sublist.refl _ | exact List.nil_sublist _ | apply List.Sublist.cons_cons | apply List.Sublist.cons))⟩, by simp [intOf]⟩
    · go_wp2_with (first | ((first | with_reducible refine at_load ?_ | ((with_reducible refine at_load_g ?_ ?_); (· rfl))); first | refine nll hM ?_ | refine nlc hM ?_ | refine nlp hM ?_) | ((with_reducible refine at_store ?_); first | (refine nlw hM ?_; clear hM; intro wx hM) | (refine nls hM ?_; clear hM; intro wx hM) | (refine nlt hM ?_; clear hM; intro wx hM)) | ((with_reducible refine at_alloc ?_); refine nlz hM ?_; clear hM; intro gx wx hM) | ((with_reducible refine at_box ?_); first | (refine nlb hM ?_; clear hM; intro gx wx hM) | (refine nlx hM ?_; clear hM; intro gx wx hM)))
      exact bodyPost_ret (results_mem_cell_tmp hM rfl (by rfl) (by repeat (first | exact List.Mem.head _ | apply List.Mem.tail)) row_rules (by rfl)) rfl ⟨gp, ge, off, c, P, d, rfl, hM.subL (by exact List.Sublist.cons_cons _ (List.Sublist.cons _ (List.Sublist.cons _ (List.Sublist.refl _))))⟩
abbrev rulesC (gr : Nat) (P : Option Addr) (d : Nat) : Array Value := #[.slice (some ⟨gr, 0, none⟩) 1 1, .slice P 1 d]
set_option maxRecDepth 20000 in
set_option maxHeartbeats 4000000 in
theorem echeck_any (gr : Nat) (lo hi : Int) (h0 : 0 ≤ lo) (h1 : lo ≤ hi) (h2 : hi ≤ 36500) (hM : Mem G w0 L R w) (hL : ⟨gr, 33, 3, ruleC lo hi⟩ ∈ L) :
    Calls Tryz.prog 6 #[.slice (some ⟨gr, 0, none⟩) 1 1] w fun e w' => e = .returned (.int .i64 0) ∧ Mem G w0 L R w' := by
  have HC := Lib.hid (fun w (hM : Mem G w0 L R w) => compile_any gr lo hi h0 h1 h2 hM hL)
  clear h0 h1 h2 hL
  go_enter Tryz.func6, Tryz.ntmps6
  go_wp2_with (first | ((with_reducible refine (HC.out _ hM).mono ?_); rintro e w1 ⟨gp, ge, off, c, P, d, rfl, hM1⟩; clear hM; have hM := hM1; clear hM1) | ((first | with_reducible refine at_load ?_ | ((with_reducible refine at_load_g ?_ ?_); (· rfl))); first | refine nll hM ?_ | refine nlc hM ?_ | refine nlp hM ?_) | ((with_reducible refine at_store ?_); first | (refine nlw hM ?_; clear hM; intro wx hM) | (refine nls hM ?_; clear hM; intro wx hM) | (refine nlt hM ?_; clear hM; intro wx hM)) | ((with_reducible refine at_alloc ?_); refine nlz hM ?_; clear hM; intro gx wx hM) | ((with_reducible refine at_box ?_); first | (refine nlb hM ?_; clear hM; intro gx wx hM) | (refine nlx hM ?_; clear hM; intro gx wx hM)))
  go_ret
  exact ⟨rfl, (hM.subL (by repeat (first | exact List.Sublist.refl _ | exact List.nil_sublist _ | apply List.Sublist.cons_cons | apply List.Sublist.cons))).subR (by exact List.Sublist.cons _ (List.Sublist.cons _ (List.Sublist.refl _)))⟩
theorem pats_at {gq oq d gp : Nat} {w : World} (h : (patsT (some ⟨gq, oq, none⟩) d gp).P w) : w.cell? ⟨gq, oq, none⟩ = some (.pointer (some ⟨gp, 0, none⟩)) := by
  obtain ⟨g, o, hA, _, h1, _⟩ := OffRow.cells h (by omega)
  injection hA with hA
  injection hA with h2 h3
  subst h2 h3
  exact h1 0 _ rfl
set_option maxRecDepth 20000 in
set_option maxHeartbeats 4000000 in
theorem rof_any (gr gp ge off c gq oq d : Nat) (lo hi : Int) (hM : Mem G w0 L R w) (hL : ⟨gr, 33, 3, ruleC lo hi⟩ ∈ L) (hp : ⟨gp, 128, 2, patC starB ge off c⟩ ∈ L) (hE : eleT (some ⟨ge, off, none⟩) c ∈ R) (hQ : patsT (some ⟨gq, oq, none⟩) d gp ∈ R) :
    Calls Tryz.prog 60 #[.agg (rulesC gr (some ⟨gq, oq, none⟩) d), .string abB] w fun e w' => e = .returned (.agg (ruleC lo hi)) ∧ Mem G w0 L R w' := by
  have HL := Lib.hid hL
  have HP := Lib.hid hp
  have HE := Lib.hid hE
  have HQ := Lib.hid hQ
  have HMA := Lib.hid (fun (L : List Ent) (w : World) (hM : Mem G w0 L R w) (hp : (⟨gp, 128, 2, patC starB ge off c⟩ : Ent) ∈ L) => match_any gp ge off c starB hM hp hE)
  clear hL hp hE hQ
  go_enter Tryz.func60, Tryz.ntmps60
  go_wp2_with (first | ((first | with_reducible refine at_load ?_ | ((with_reducible refine at_load_g ?_ ?_); (· rfl))); first | refine nll hM ?_ | refine nlc hM ?_ | refine nlp hM ?_) | ((with_reducible refine at_store ?_); first | (refine nlw hM ?_; clear hM; intro wx hM) | (refine nls hM ?_; clear hM; intro wx hM) | (refine nlt hM ?_; clear hM; intro wx hM)) | ((with_reducible refine at_alloc ?_); refine nlz hM ?_; clear hM; intro gx wx hM) | ((with_reducible refine at_box ?_); first | (refine nlb hM ?_; clear hM; intro gx wx hM) | (refine nlx hM ?_; clear hM; intro gx wx hM)))
  obtain ⟨g4, hg4⟩ := hM.name1
  subst hg4
  have M0 := Lib.hid hM
  clear hM
  go_loopw [5] (fun i wr => i = .int .i64 0 ∧ Mem G w0 (⟨g4, 33, 3, #[.string ⟨#[]⟩, .int .i64 0, .int .i64 0]⟩ :: ⟨gx, 77, 2, rulesC gr (some ⟨gq, oq, none⟩) d⟩ :: L) R wr) (fun _ _ => 0)
  case atStart => exact ⟨rfl, M0.out⟩
  case round =>
    clear M0
    obtain ⟨rfl, hM⟩ := hrel
    have hc := Lib.hid (fun L w (hM : Mem G w0 L R w) => pats_at (hM.thing _ HQ.out))
    go_wp2_with (first | ((with_reducible refine at_load ?_); first | refine nlo (hc.out _ _ hM) ?_ | refine nll hM ?_ (hL := List.Mem.tail _ (List.Mem.tail _ HL.out)) (hty := row_rule)) | ((with_reducible refine (HMA.out _ _ hM (List.Mem.tail _ (List.Mem.tail _ HP.out))).mono ?_); rintro e w1 ⟨rfl, hM1⟩; clear hM; have hM := hM1; clear hM1) | ((first | with_reducible refine at_load ?_ | ((with_reducible refine at_load_g ?_ ?_); (· rfl))); first | refine nll hM ?_ | refine nlc hM ?_ | refine nlp hM ?_) | ((with_reducible refine at_store ?_); first | (refine nlw hM ?_; clear hM; intro wx hM) | (refine nls hM ?_; clear hM; intro wx hM) | (refine nlt hM ?_; clear hM; intro wx hM)) | ((with_reducible refine at_alloc ?_); refine nlz hM ?_; clear hM; intro gx wx hM) | ((with_reducible refine at_box ?_); first | (refine nlb hM ?_; clear hM; intro gx wx hM) | (refine nlx hM ?_; clear hM; intro gx wx hM)))
    exact bodyPost_ret (results_mem_cell hM rfl (by rfl) (by repeat (first | exact List.Mem.head _ | apply List.Mem.tail)) row_rule) rfl ⟨rfl, hM.subL (by exact List.Sublist.cons _ (List.Sublist.cons _ (List.Sublist.refl _)))⟩
end
end Go.Proofs.YtpjphjokhccdaaaGreat
