/- Seat n: Put. -/
import Derived.Test.YtpjphjokhccdaaaGreatNgf
namespace Go.Proofs.YtpjphjokhccdaaaGreat
open Go Go.RowKit Go.Bul Go.Thg Go.Lin Go.Maps
theorem arr_id : ArrTy Tryz.prog 38 := ⟨⟨32, 5, 1, Tryz.underlying38, by kernel_rfl⟩⟩
section
variable {w w0 : World} {G : List Nat} {L : List Ent} {R : List Thing} {F : Thing → List Thing}
set_option maxRecDepth 20000 in
set_option maxHeartbeats 2000000 in
theorem sput_full (s b j : Nat) (bud byt nxt now : Int) (t : ByteArray) (mp : Nat → Option Value) (hM : Mem G w0 L R w) (hj : j < 11) (hj0 : 0 < j) (hn : mp j = none) (n0 : 0 ≤ now) (n1 : now ≤ 105190559) (te : t.toList.isEmpty = false) (t1 : t.size ≤ 1000) (hf : bud - byt < t.size) (b0 : 0 ≤ bud) (b1 : bud ≤ 100000) (y0 : -100000 ≤ byt) (y1 : byt ≤ 100000)
    (hL : ⟨s, 74, 4, splC bud byt nxt b⟩ ∈ L := by repeat (first | exact List.Mem.head _ | assumption | apply List.Mem.tail)) (hR : mapT b mp ∈ R := by repeat (first | exact List.Mem.head _ | assumption | apply List.Mem.tail)) :
    Calls Tryz.prog 10 #[.pointer (some ⟨s, 0, none⟩), .agg (stC j []), .string t, .int .i64 now] w fun e w' => e = .returned (.int .i64 9) ∧ Mem G w0 L R w' := by
  have HH := Lib.hid (fun (L : List Ent) (w : World) (hM : Mem G w0 L R w) (hL : (⟨s, 74, 4, splC bud byt nxt b⟩ : Ent) ∈ L) => shas_no s b j bud byt nxt mp hM hj hn hL hR)
  have HF := Lib.hid (fun (L : List Ent) (w : World) (hM : Mem G w0 L R w) (hL : (⟨s, 74, 4, splC bud byt nxt b⟩ : Ent) ∈ L) => sfree_any s b bud byt nxt hM b0 b1 y0 y1 hL)
  have hq := fun W => eq_id j 0 W
  rw [decide_eq_false (by omega)] at hq
  have c1 : decide ((65536 : Int) < (t.size : Nat)) = false := decide_eq_false (by omega)
  have c2 : decide (65536 < t.size) = false := decide_eq_false (by omega)
  have c3 : decide (now < 0) = false := decide_eq_false (by omega)
  have c4 : decide (105190559 < now) = false := decide_eq_false (by omega)
  have c5 : decide (bud - byt < ((t.size : Nat) : Int)) = true := decide_eq_true hf
  clear hj hj0 hn n0 n1 t1 hf b0 b1 y0 y1
  go_enter Tryz.func10, Tryz.ntmps10
  go_wp2_with (first | ((first | with_reducible refine at_build ?_ | ((with_reducible refine at_build_g ?_ ?_); (· rfl))); refine wpList_build_zero rfl _ (by rfl) _ _ zero_id arr_id ?_) | ((with_reducible refine (HH.out _ _ hM (List.Mem.tail _ hL)).mono ?_); rintro e w1 ⟨rfl, hM1⟩; clear hM; have hM := hM1; clear hM1) | ((with_reducible refine (HF.out _ _ hM (List.Mem.tail _ hL)).mono ?_); rintro e w1 ⟨rfl, hM1⟩; clear hM; have hM := hM1; clear hM1) | ((first | with_reducible refine at_load ?_ | ((with_reducible refine at_load_g ?_ ?_); (· rfl))); first | refine nll hM ?_ | refine nlc hM ?_ | refine nlp hM ?_) | ((with_reducible refine at_store ?_); first | (refine nlw hM ?_; clear hM; intro wx hM) | (refine nls hM ?_; clear hM; intro wx hM) | (refine nlt hM ?_; clear hM; intro wx hM)) | ((with_reducible refine at_alloc ?_); refine nlz hM ?_; clear hM; intro gx wx hM) | ((with_reducible refine at_box ?_); first | (refine nlb hM ?_; clear hM; intro gx wx hM) | (refine nlx hM ?_; clear hM; intro gx wx hM)))
  go_ret
  exact ⟨rfl, hM.subL (by repeat (first | exact List.Sublist.refl _ | exact List.nil_sublist _ | apply List.Sublist.cons_cons | apply List.Sublist.cons))⟩
set_option maxRecDepth 20000 in
set_option maxHeartbeats 2000000 in
theorem sput_ok {FL : Array Value → List Ent} (s b j : Nat) (bud byt nxt now : Int) (t : ByteArray) (mp : Nat → Option Value) (hM : Mem G w0 L R w) (hj : j < 11) (hj0 : 0 < j) (hn : mp j = none) (n0 : 0 ≤ now) (n1 : now ≤ 105190559) (te : t.toList.isEmpty = false) (t1 : t.size ≤ 1000) (hf : (t.size : Int) ≤ bud - byt) (x0 : 0 ≤ nxt) (x1 : nxt ≤ 100000) (b0 : 0 ≤ bud) (b1 : bud ≤ 100000) (y0 : -100000 ≤ byt) (y1 : byt ≤ 100000)
    (hL : UpdL s 74 4 (splC bud byt nxt b) L FL := by repeat (first | exact UpdL.head _ _ _ _ _ | assumption | apply UpdL.tail)) (hR : UpdR (mapT b mp) R F := by repeat (first | exact UpdR.head _ _ | assumption | apply UpdR.tail)) :
    Calls Tryz.prog 10 #[.pointer (some ⟨s, 0, none⟩), .agg (stC j []), .string t, .int .i64 now] w fun e w' => e = .returned (.int .i64 0) ∧ Mem G w0 (FL (splC bud (byt + t.size) (nxt + 1) b)) (F (mapT b (updM mp j (some (artV t now nxt))))) w' := by
  have hR0 := mem_of_updR hR
  have hL0 := mem_of_updL hL
  have HJ := Lib.hid hj
  have HH := Lib.hid (fun (L : List Ent) (w : World) (hM : Mem G w0 L R w) (hL : (⟨s, 74, 4, splC bud byt nxt b⟩ : Ent) ∈ L) => shas_no s b j bud byt nxt mp hM hj hn hL hR0)
  have HF := Lib.hid (fun (L : List Ent) (w : World) (hM : Mem G w0 L R w) (hL : (⟨s, 74, 4, splC bud byt nxt b⟩ : Ent) ∈ L) => sfree_any s b bud byt nxt hM b0 b1 y0 y1 hL)
  have hq := fun W => eq_id j 0 W
  rw [decide_eq_false (by omega)] at hq
  have c1 : decide ((65536 : Int) < (t.size : Nat)) = false := decide_eq_false (by omega)
  have c2 : decide (65536 < t.size) = false := decide_eq_false (by omega)
  have c3 : decide (now < 0) = false := decide_eq_false (by omega)
  have c4 : decide (105190559 < now) = false := decide_eq_false (by omega)
  have c5 : decide (bud - byt < ((t.size : Nat) : Int)) = false := decide_eq_false (by omega)
  have t0 : (0 : Int) ≤ (t.size : Nat) := Int.natCast_nonneg _
  have t2 : ((t.size : Nat) : Int) ≤ 1000 := by omega
  clear hj hj0 hn n0 n1 t1 hf b0 b1
  go_enter Tryz.func10, Tryz.ntmps10
  go_upto_region 11 with (first | ((first | with_reducible refine at_build ?_ | ((with_reducible refine at_build_g ?_ ?_); (· rfl))); refine wpList_build_zero rfl _ (by rfl) _ _ zero_id arr_id ?_) | ((with_reducible refine (HH.out _ _ hM (List.Mem.tail _ hL0)).mono ?_); rintro e w1 ⟨rfl, hM1⟩; clear hM; have hM := hM1; clear hM1) | ((with_reducible refine (HF.out _ _ hM (List.Mem.tail _ hL0)).mono ?_); rintro e w1 ⟨rfl, hM1⟩; clear hM; have hM := hM1; clear hM1) | ((first | with_reducible refine at_load ?_ | ((with_reducible refine at_load_g ?_ ?_); (· rfl))); first | refine nll hM ?_ | refine nlc hM ?_ | refine nlp hM ?_) | ((with_reducible refine at_store ?_); first | (refine nlw hM ?_; clear hM; intro wx hM) | (refine nls hM ?_; clear hM; intro wx hM) | (refine nlt hM ?_; clear hM; intro wx hM)) | ((with_reducible refine at_alloc ?_); refine nlz hM ?_; clear hM; intro gx wx hM) | ((with_reducible refine at_box ?_); first | (refine nlb hM ?_; clear hM; intro gx wx hM) | (refine nlx hM ?_; clear hM; intro gx wx hM)))
  refine wp_region_allB hM 12 (by kernel_rfl) ?_
  clear hM
  intro wd hM
  have HM0 := Lib.hid hM
  have hS := Below.refl wd.heap.size wd
  refine wpAllT_takes [0, 1, 2, 5, 6, 7, 8, 9, 3, 4, 10, 11] (by kernel_rfl) (fun _ _ _ _ _ h => h) hS (by kernel_rfl) ?_
  simp only [pickOps, List.filterMap_cons, List.filterMap_nil, List.getElem?_cons_zero, List.getElem?_cons_succ]
  repeat ((with_reducible apply wpHeld_step); (· rfl); (· (intro wq hSw; first | (go_simp; rfl) | (have hM' := HM0.out.step hSw; first | exact yields_load (C := fun _ => True) (nqc hM') rfl | exact yields_load (C := fun _ => True) (nql hM') rfl | exact yields_load (C := fun _ => True) (nqp hM') rfl | fail))); intro K hK; go_simp; (with_reducible refine hK _ ?_); clear hK K)
  refine wpHeld_nil ?_
  refine wpAllT_one 12 rfl (by kernel_rfl) ?_
  refine nmu hM mty_spool HJ.out ?_ (v := artV t now nxt)
  clear hM HM0 hS
  intro wx hM
  refine wpList_then ⟨.inl (by kernel_rfl), wpAllT_drop (by kernel_rfl) (wpAll_done (by kernel_rfl) ?_)⟩
  go_wp2_with (first | ((with_reducible refine at_store ?_); first | (refine nls hM ?_ (hX := set_4_2 _ _ _ _ _) (hL := UpdL.tail _ hL); clear hM; intro wx hM; have hL2 := hL.again (splC bud byt (nxt + 1) b); have hL3 := mem_of_updL hL2) | (refine nls hM ?_ (hX := set_4_1 _ _ _ _ _) (hL := UpdL.tail _ hL2); clear hM; intro wx hM)) | ((first | with_reducible refine at_load ?_ | ((with_reducible refine at_load_g ?_ ?_); (· rfl))); first | refine nll hM ?_ | refine nlc hM ?_ | refine nlp hM ?_) | ((with_reducible refine at_store ?_); first | (refine nlw hM ?_; clear hM; intro wx hM) | (refine nls hM ?_; clear hM; intro wx hM) | (refine nlt hM ?_; clear hM; intro wx hM)) | ((with_reducible refine at_alloc ?_); refine nlz hM ?_; clear hM; intro gx wx hM) | ((with_reducible refine at_box ?_); first | (refine nlb hM ?_; clear hM; intro gx wx hM) | (refine nlx hM ?_; clear hM; intro gx wx hM)))
  go_ret
  exact ⟨rfl, hM.subL (by repeat (first | exact List.Sublist.refl _ | exact List.nil_sublist _ | apply List.Sublist.cons_cons | apply List.Sublist.cons))⟩
end
end Go.Proofs.YtpjphjokhccdaaaGreat
