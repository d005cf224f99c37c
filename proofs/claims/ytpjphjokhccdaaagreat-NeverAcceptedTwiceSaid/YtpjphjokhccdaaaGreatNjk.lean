/- Seat n: the planner's closures: each returns some bool. -/
import Derived.Test.YtpjphjokhccdaaaGreatNjh
namespace Go.Proofs.YtpjphjokhccdaaaGreat
open Go Go.RowKit Go.Bul Go.Thg Go.Lin Go.Maps
theorem one_fid : OneTy Tryz.prog 67 := ⟨⟨_, Tryz.underlying67, rfl, by kernel_rfl⟩⟩
set_option maxRecDepth 20000 in
theorem st1_any (j : Nat) (d a : Int) (gg : Nat) (b k : Int) (f o m : Bool) (w : World) : Calls Tryz.prog 46 #[.agg (stC j (candTl d a gg b k f o m))] w fun e w' => (∃ b, e = .returned (.bool b)) ∧ Below w.heap.size w w' := by
  have hM := Mem.start [] w
  go_enter Tryz.func46, Tryz.ntmps46
  go_wp2_with (first | ((first | with_reducible refine at_load ?_ | ((with_reducible refine at_load_g ?_ ?_); (· rfl))); first | refine nll hM ?_ | refine nlc hM ?_ | refine nlp hM ?_) | ((with_reducible refine at_store ?_); first | (refine nlw hM ?_; clear hM; intro wx hM) | (refine nls hM ?_; clear hM; intro wx hM) | (refine nlt hM ?_; clear hM; intro wx hM)) | ((with_reducible refine at_alloc ?_); refine nlz hM ?_; clear hM; intro gx wx hM) | ((with_reducible refine at_box ?_); first | (refine nlb hM ?_; clear hM; intro gx wx hM) | (refine nlx hM ?_; clear hM; intro gx wx hM)))
  go_ret
  exact ⟨⟨_, rfl⟩, hM.below⟩
set_option maxRecDepth 20000 in
theorem st2_any (j : Nat) (d a : Int) (gg : Nat) (b k : Int) (f o m : Bool) (w : World) : Calls Tryz.prog 47 #[.agg (stC j (candTl d a gg b k f o m))] w fun e w' => (∃ b, e = .returned (.bool b)) ∧ Below w.heap.size w w' := by
  have hM := Mem.start [] w
  go_enter Tryz.func47, Tryz.ntmps47
  go_wp2_with (first | ((first | with_reducible refine at_load ?_ | ((with_reducible refine at_load_g ?_ ?_); (· rfl))); first | refine nll hM ?_ | refine nlc hM ?_ | refine nlp hM ?_) | ((with_reducible refine at_store ?_); first | (refine nlw hM ?_; clear hM; intro wx hM) | (refine nls hM ?_; clear hM; intro wx hM) | (refine nlt hM ?_; clear hM; intro wx hM)) | ((with_reducible refine at_alloc ?_); refine nlz hM ?_; clear hM; intro gx wx hM) | ((with_reducible refine at_box ?_); first | (refine nlb hM ?_; clear hM; intro gx wx hM) | (refine nlx hM ?_; clear hM; intro gx wx hM)))
  go_ret
  exact ⟨⟨_, rfl⟩, hM.below⟩
set_option maxRecDepth 20000 in
set_option maxHeartbeats 1000000 in
theorem idxNil_any (v : Value) (w : World) : Calls Tryz.prog 115 #[.slice none 0 0, v] w fun e w' => e = .returned (.int .i64 (-1)) ∧ w = w' := by
  go_enter Tryz.func115, Tryz.ntmps115
  go_wp2_with fail
  go_loopw [8] (fun i wr => i = .int .i64 0 ∧ w = wr) (fun _ _ => 0)
  case atStart => exact ⟨rfl, rfl⟩
  case round =>
    obtain ⟨rfl, rfl⟩ := hrel
    go_wp2_with fail
    go_ret
    exact ⟨rfl, rfl⟩
set_option maxRecDepth 20000 in
theorem contNil_any (v : Value) (w : World) : Calls Tryz.prog 90 #[.slice none 0 0, v] w fun e w' => e = .returned (.bool false) ∧ w = w' := by
  have HI := Lib.hid (fun v w => idxNil_any v w)
  go_enter Tryz.func90, Tryz.ntmps90
  go_wp2_with ((with_reducible refine (HI.out _ _).mono ?_); rintro e w1 ⟨rfl, rfl⟩)
  go_ret
  exact ⟨rfl, rfl⟩
theorem neq_fn (g : Nat) (w : World) : Sem.run Tryz.prog (binOp .neq 67 (.func (.func 64) #[] #[.pointer (some ⟨g, 0, none⟩)]) .nilFunc) w = .ok (.bool true) w := by kernel_rfl
set_option maxRecDepth 20000 in
set_option maxHeartbeats 2000000 in
theorem held_any (j : Nat) (d a : Int) (gg : Nat) (b k : Int) (g : Nat) (w : World) : Calls Tryz.prog 63 #[.agg (stC j (artTl d a gg b k)), .func (.func 64) #[] #[.pointer (some ⟨g, 0, none⟩)]] w fun e w' => e = .returned (.bool false) ∧ Below w.heap.size w w' := by
  have hM := Mem.start [] w
  have HC := Lib.hid (fun v w => contNil_any v w)
  have hq := neq_fn g
  go_enter Tryz.func63, Tryz.ntmps63
  go_wp2_with (first | ((with_reducible refine (HC.out _ _).mono ?_); rintro e w1 ⟨rfl, rfl⟩) | ((first | with_reducible refine at_load ?_ | ((with_reducible refine at_load_g ?_ ?_); (· rfl))); first | refine nll hM ?_ | refine nlc hM ?_ | refine nlp hM ?_) | ((with_reducible refine at_store ?_); first | (refine nlw hM ?_; clear hM; intro wx hM) | (refine nls hM ?_; clear hM; intro wx hM) | (refine nlt hM ?_; clear hM; intro wx hM)) | ((with_reducible refine at_alloc ?_); refine nlz hM ?_; clear hM; intro gx wx hM) | ((with_reducible refine at_box ?_); first | (refine nlb hM ?_; clear hM; intro gx wx hM) | (refine nlx hM ?_; clear hM; intro gx wx hM)))
  go_ret
  exact ⟨rfl, hM.below⟩
set_option maxRecDepth 20000 in
set_option maxHeartbeats 4000000 in
theorem prot_any (pp j : Nat) (d a : Int) (gg : Nat) (b k : Int) (f o m : Bool) (w : World) : Calls Tryz.prog 51 #[.pointer (some ⟨pp, 0, none⟩), .agg (stC j (candTl d a gg b k f o m))] w fun e w' => (∃ b, e = .returned (.bool b)) ∧ Below w.heap.size w w' := by
  have hM := Mem.start [] w
  have HH := Lib.hid (fun j d a gg b k g w => held_any j d a gg b k g w)
  cases f
  all_goals
    go_enter Tryz.func51, Tryz.ntmps51
    go_wp2_with (first | ((with_reducible refine at_load_g ?_ ?_); (· rfl); refine nlp hM ?_ (hty := row_artc) (hX := stC_39 _ _ _ _ _ _ _ _ _ _ _)) | ((with_reducible refine (HH.out _ _ _ _ _ _ _ _).mono ?_); rintro e w1 ⟨rfl, hb⟩; replace hM := hM.step hb; clear hb) | ((first | with_reducible refine at_load ?_ | ((with_reducible refine at_load_g ?_ ?_); (· rfl))); first | refine nll hM ?_ | refine nlc hM ?_ | refine nlp hM ?_) | ((with_reducible refine at_store ?_); first | (refine nlw hM ?_; clear hM; intro wx hM) | (refine nls hM ?_; clear hM; intro wx hM) | (refine nlt hM ?_; clear hM; intro wx hM)) | ((with_reducible refine at_alloc ?_); refine nlz hM ?_; clear hM; intro gx wx hM) | ((with_reducible refine at_box ?_); first | (refine nlb hM ?_; clear hM; intro gx wx hM) | (refine nlx hM ?_; clear hM; intro gx wx hM)))
    go_ret
    exact ⟨⟨_, rfl⟩, hM.below⟩
section
variable {w w0 : World} {G : List Nat} {L : List Ent} {R : List Thing} {F : Thing → List Thing}
set_option maxRecDepth 20000 in
set_option maxHeartbeats 2000000 in
theorem st3_any (gb pp : Nat) (B : Option Addr) (n c bh : Nat) (byt bud : Int) (j : Nat) (d a : Int) (gg : Nat) (b k : Int) (f o m : Bool) (hM : Mem G w0 L R w) (hb : ⟨gb, 90, 1, #[.pointer (some ⟨pp, 0, none⟩)]⟩ ∈ L) (hp : ⟨pp, 108, 4, plC B n c bh byt bud⟩ ∈ L) :
    Calls Tryz.prog 48 #[.agg (stC j (candTl d a gg b k f o m)), .pointer (some ⟨gb, 0, none⟩)] w fun e w' => (∃ b, e = .returned (.bool b)) ∧ Below w.heap.size w w' := by
  have HO := Lib.hid (fun w' (hb : Below w.heap.size w w') => hM.step hb)
  clear hM
  have hM := Mem.start [] w
  cases hq : decide (bud < byt)
  all_goals
    go_enter Tryz.func48, Tryz.ntmps48
    go_upto_region 1 with (first | ((first | with_reducible refine at_load ?_ | ((with_reducible refine at_load_g ?_ ?_); (· rfl))); first | refine nll hM ?_ | refine nlc hM ?_ | refine nlp hM ?_) | ((with_reducible refine at_store ?_); first | (refine nlw hM ?_; clear hM; intro wx hM) | (refine nls hM ?_; clear hM; intro wx hM) | (refine nlt hM ?_; clear hM; intro wx hM)) | ((with_reducible refine at_alloc ?_); refine nlz hM ?_; clear hM; intro gx wx hM) | ((with_reducible refine at_box ?_); first | (refine nlb hM ?_; clear hM; intro gx wx hM) | (refine nlx hM ?_; clear hM; intro gx wx hM)))
    refine wp_region_allHB hM (by kernel_rfl) ?_
    clear hM
    intro wd hM
    have HM0 := Lib.hid hM
    have hS := Below.refl wd.heap.size wd
    refine wpAllH_takes [0, 1, 2, 3, 4, 5, 6, 7, 8, 9, 10, 11, 12, 13] (by kernel_rfl) (fun _ _ _ _ _ h => h) hS (by kernel_rfl) ?_
    simp only [pickOps, List.filterMap_cons, List.filterMap_nil, List.getElem?_cons_zero, List.getElem?_cons_succ]
    repeat (first | ((with_reducible apply wpHeld_stepG); (· rfl); (· (intro wq hSw; first | (go_simp; rfl) | (have hM' := HM0.out.step hSw; first | exact yields_load (C := fun _ => True) (nqc hM') rfl | exact yields_load (C := fun _ => True) (nql hM') rfl | exact yields_load (C := fun _ => True) (nqp hM') rfl | exact yields_load (C := fun _ => True) (nqc (HO.out _ hM'.below)) rfl))); intro K hK; go_simp; (with_reducible refine hK _ ?_); clear hK K) | ((with_reducible apply wpHeld_stepU); (· rfl); intro K hK; go_simp; (with_reducible refine hK _ ?_); clear hK K))
    refine wpHeld_nil ?_
    clear hS HM0
    refine wpAllH_done (by kernel_rfl) ?_
    go_wp2_with fail
    go_ret
    exact ⟨⟨_, rfl⟩, hM.below⟩
end
end Go.Proofs.YtpjphjokhccdaaaGreat
