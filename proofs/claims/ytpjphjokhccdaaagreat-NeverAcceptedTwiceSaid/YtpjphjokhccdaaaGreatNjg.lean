/- Seat n: comparing candidates: some number. -/
import Derived.Test.YtpjphjokhccdaaaGreatNia
namespace Go.Proofs.YtpjphjokhccdaaaGreat
open Go Go.RowKit Go.Bul Go.Thg Go.Lin Go.Maps
set_option maxRecDepth 20000 in
theorem isNaNb_any (n : Int) (w : World) : Calls Tryz.prog 89 #[.int .u8 n] w fun e w' => e = .returned (.bool false) ∧ w = w' := by
  have hq : (n != n) = false := by simp
  go_enter Tryz.func89, Tryz.ntmps89
  go_wp2_with fail
  go_ret
  exact ⟨rfl, rfl⟩
set_option maxRecDepth 20000 in
set_option maxHeartbeats 1000000 in
theorem cmpb_any (x y : Int) (w : World) : Calls Tryz.prog 62 #[.int .u8 x, .int .u8 y] w fun e w' => (∃ z, e = .returned (.int .i64 z)) ∧ w = w' := by
  have HN := Lib.hid (fun n w => isNaNb_any n w)
  by_cases h1 : x < y
  · have c1 : decide (x < y) = true := decide_eq_true h1
    clear h1
    go_enter Tryz.func62, Tryz.ntmps62
    go_wp2_with ((with_reducible refine (HN.out _ _).mono ?_); rintro e w1 ⟨rfl, rfl⟩)
    go_ret
    exact ⟨⟨_, rfl⟩, rfl⟩
  · have c1 : decide (x < y) = false := decide_eq_false h1
    clear h1
    by_cases h2 : y < x
    · have c2 : decide (y < x) = true := decide_eq_true h2
      clear h2
      go_enter Tryz.func62, Tryz.ntmps62
      go_wp2_with ((with_reducible refine (HN.out _ _).mono ?_); rintro e w1 ⟨rfl, rfl⟩)
      go_ret
      exact ⟨⟨_, rfl⟩, rfl⟩
    · have c2 : decide (y < x) = false := decide_eq_false h2
      clear h2
      go_enter Tryz.func62, Tryz.ntmps62
      go_wp2_with ((with_reducible refine (HN.out _ _).mono ?_); rintro e w1 ⟨rfl, rfl⟩)
      go_ret
      exact ⟨⟨_, rfl⟩, rfl⟩
theorem id_byte (j : Nat) (tl : List Value) {k : Nat} (h : k < 32) : ∃ c : Int, (stC j tl)[k]? = some (.int .u8 c) := by
  have h1 : k < (idL j).length := by simpa [idL] using h
  refine ⟨((idL j)[k] : Nat), ?_⟩
  simp only [stC, List.getElem?_toArray]
  rw [List.getElem?_append_left (by rw [id_len]; exact h), vals_get, List.getElem?_eq_getElem h1]
  rfl
section
variable {w w0 : World} {G : List Nat} {L : List Ent} {R : List Thing} {F : Thing → List Thing}
set_option maxRecDepth 20000 in
set_option maxHeartbeats 4000000 in
theorem scmp_any (g1 g2 c1 c2 j1 j2 : Nat) (l1 l2 : List Value) (t1 t2 : TypeId) (n1 n2 : Nat) (hM : Mem G w0 L R w) (h1 : (⟨g1, t1, n1, stC j1 l1⟩ : Ent) ∈ L) (h2 : (⟨g2, t2, n2, stC j2 l2⟩ : Ent) ∈ L) :
    Calls Tryz.prog 45 #[.slice (some ⟨g1, 0, none⟩) 32 c1, .slice (some ⟨g2, 0, none⟩) 32 c2] w fun e w' => (∃ z, e = .returned (.int .i64 z)) ∧ w = w' := by
  have HB1 := Lib.hid (fun i => (hM.blk h1).cell i)
  have HB2 := Lib.hid (fun i => (hM.blk h2).cell i)
  have HC := Lib.hid (fun x y w => cmpb_any x y w)
  clear hM h1 h2
  go_enter Tryz.func45, Tryz.ntmps45
  go_wp2_with fail
  go_loopw [11] (fun i wr => ∃ k : Nat, k ≤ 32 ∧ i = .int .i64 (k : Nat) ∧ w = wr) (fun i _ => 32 - (intOf i).toNat)
  case atStart => exact ⟨0, by omega, rfl, rfl⟩
  case round =>
    obtain ⟨k, hk, rfl, rfl⟩ := hrel
    have k0 : (0 : Int) ≤ (k : Int) := Int.natCast_nonneg _
    have k1 : (k : Int) ≤ 32 := by omega
    by_cases hlt : k < 32
    · have hlt' : (k : Int) < 32 := by omega
      obtain ⟨x, hx⟩ := id_byte j1 l1 hlt
      obtain ⟨y, hy⟩ := id_byte j2 l2 hlt
      have e1 : w.cell? ⟨g1, k, none⟩ = some (.int .u8 x) := (HB1.out k).trans hx
      have e2 : w.cell? ⟨g2, k, none⟩ = some (.int .u8 y) := (HB2.out k).trans hy
      clear hx hy
      go_upto_region 8 with ((with_reducible refine (HC.out _ _ _).mono ?_); rintro e w1 ⟨⟨z, rfl⟩, rfl⟩)
      by_cases hz : z = 0
      · have z1 : (z != 0) = false := by simpa using hz
        clear hz
        go_wp2_with fail
        exact ⟨⟨k + 1, by omega, by simp⟩, by first | (simp [intOf]; done) | (simp [intOf]; omega)⟩
      · have z1 : (z != 0) = true := by simpa using hz
        clear hz
        go_wp2_with fail
        go_ret
        exact ⟨⟨_, rfl⟩, rfl⟩
    · obtain rfl : k = 32 := by omega
      go_wp2_with fail
      go_ret
      exact ⟨⟨_, rfl⟩, rfl⟩
set_option maxRecDepth 20000 in
set_option maxHeartbeats 4000000 in
theorem cor_any (g : Nat) (x y : Int) (hM : Mem G w0 L R w) (h1 : (⟨g, 3, 2, #[.int .i64 x, .int .i64 y]⟩ : Ent) ∈ L) :
    Calls Tryz.prog 44 #[.slice (some ⟨g, 0, none⟩) 2 2] w fun e w' => (∃ z, e = .returned (.int .i64 z)) ∧ w = w' := by
  have HB := Lib.hid (fun i => (hM.blk h1).cell i)
  clear hM h1
  go_enter Tryz.func44, Tryz.ntmps44
  go_wp2_with fail
  go_loopw [8] (fun i wr => ∃ k : Nat, k ≤ 2 ∧ i = .int .i64 (k : Nat) ∧ w = wr) (fun i _ => 2 - (intOf i).toNat)
  case atStart => exact ⟨0, by omega, rfl, rfl⟩
  case round =>
    obtain ⟨k, hk, rfl, rfl⟩ := hrel
    have k0 : (0 : Int) ≤ (k : Int) := Int.natCast_nonneg _
    have k1 : (k : Int) ≤ 2 := by omega
    by_cases hlt : k < 2
    · have hlt' : (k : Int) < 2 := by omega
      obtain ⟨z, hz⟩ : ∃ z, w.cell? ⟨g, k, none⟩ = some (.int .i64 z) := by
        rcases (by omega : k = 0 ∨ k = 1) with rfl | rfl
        · exact ⟨x, HB.out 0⟩
        · exact ⟨y, HB.out 1⟩
      by_cases hz0 : z = 0
      · have z1 : (z != 0) = false := by simpa using hz0
        clear hz0
        go_wp2_with fail
        exact ⟨⟨k + 1, by omega, by simp⟩, by first | (simp [intOf]; done) | (simp [intOf]; omega)⟩
      · have z1 : (z != 0) = true := by simpa using hz0
        clear hz0
        go_wp2_with fail
        go_ret
        exact ⟨⟨_, rfl⟩, rfl⟩
    · obtain rfl : k = 2 := by omega
      go_wp2_with fail
      go_ret
      exact ⟨⟨_, rfl⟩, rfl⟩
theorem run_b2i (x y : Int) (w : World) : (Instr.buildSlice 142 2 #[(0, .int .i64 x), (1, .int .i64 y)]).run Tryz.prog w = .ok (.slice (some ⟨w.heap.size, 0, none⟩) 2 2) (w.alloc (.cells #[.int .i64 x, .int .i64 y] 3)) := by kernel_rfl
theorem nb2i {ops : Array Oper} {rest : List Oper} {o : Oper} {a : Act} {Q : Exit → Act → World → Prop} {x0 x1 : Operand} {x y : Int} (hM : Mem G w0 L R w) (h : ∀ g w', Mem G w0 (⟨g, 3, 2, #[.int .i64 x, .int .i64 y]⟩ :: L) R w' → wpList Tryz.prog ops Q rest (a.put o.dst (.slice (some ⟨g, 0, none⟩) 2 2)) w')
    (hgd : o.guard = none := by rfl) (ho : o.op = .buildSlice 142 2 #[(0, x0), (1, x1)] := by rfl) (hx : a.eval x0 = .int .i64 x := by rfl) (hy : a.eval x1 = .int .i64 y := by rfl) : wpList Tryz.prog ops Q (o :: rest) a w := by
  refine wpList_plain hgd fun K hK => ?_
  unfold Oper.wp execOp
  simp only [ho, List.map_toArray, List.map_cons, List.map_nil, hx, hy, Sem.run_bind, run_b2i, Result.andThen_ok]
  exact hK _ _ (h _ _ (hM.alloc _ _ rfl))
abbrev candTl (d a : Int) (gg : Nat) (b k : Int) (f o m : Bool) : List Value := [.int .i64 d, .int .i64 a, .slice (some ⟨gg, 0, none⟩) 1 1, .int .i64 b, .int .i64 k, .slice none 0 0, .bool false, .bool f, .bool o, .bool m]
set_option maxRecDepth 20000 in
set_option maxHeartbeats 4000000 in
theorem cmpCand_any (j1 j2 : Nat) (d1 a1 : Int) (gg1 : Nat) (b1 k1 : Int) (f1 o1 m1 : Bool) (d2 a2 : Int) (gg2 : Nat) (b2 k2 : Int) (f2 o2 m2 : Bool) (w : World) :
    Calls Tryz.prog 43 #[.agg (stC j1 (candTl d1 a1 gg1 b1 k1 f1 o1 m1)), .agg (stC j2 (candTl d2 a2 gg2 b2 k2 f2 o2 m2))] w fun e w' => (∃ z, e = .returned (.int .i64 z)) ∧ Below w.heap.size w w' := by
  have hM := Mem.start [] w
  have HC := Lib.hid (fun x y w => cmpi_any x y w)
  go_enter Tryz.func43, Tryz.ntmps43
  go_upto_region 1 with (first | ((first | with_reducible refine at_load ?_ | ((with_reducible refine at_load_g ?_ ?_); (· rfl))); first | refine nll hM ?_ | refine nlc hM ?_ | refine nlp hM ?_) | ((with_reducible refine at_store ?_); first | (refine nlw hM ?_; clear hM; intro wx hM) | (refine nls hM ?_; clear hM; intro wx hM) | (refine nlt hM ?_; clear hM; intro wx hM)) | ((with_reducible refine at_alloc ?_); refine nlz hM ?_; clear hM; intro gx wx hM) | ((with_reducible refine at_box ?_); first | (refine nlb hM ?_; clear hM; intro gx wx hM) | (refine nlx hM ?_; clear hM; intro gx wx hM)))
  refine wp_region_allHB hM (by kernel_rfl) ?_
  clear hM
  intro wd hM
  have HM0 := Lib.hid hM
  have hS := Below.refl wd.heap.size wd
  refine wpAllH_takes [0, 1, 3, 4, 7, 8, 9, 10, 11, 12, 2, 5] (by kernel_rfl) (fun _ _ _ _ _ h => h) hS (by kernel_rfl) ?_
  simp only [pickOps, List.filterMap_cons, List.filterMap_nil, List.getElem?_cons_zero, List.getElem?_cons_succ]
  repeat ((with_reducible apply wpHeld_step); (· rfl); (· (intro wq hSw; first | (go_simp; rfl) | (have hM' := HM0.out.step hSw; first | exact yields_load (C := fun _ => True) (nqc hM') rfl | exact yields_load (C := fun _ => True) (nql hM') rfl | exact yields_load (C := fun _ => True) (nqp hM') rfl | fail))); intro K hK; go_simp; (with_reducible refine hK _ ?_); clear hK K)
  refine wpHeld_nil ?_
  refine wpAllH_one 6 rfl (by kernel_rfl) ?_
  go_wp2_with fail
  refine (HC.out _ _ _).mono ?_
  rintro e w1 ⟨⟨z1, rfl⟩, rfl⟩
  go_wp2_with fail
  refine then_normal ⟨hS, ?_⟩
  refine wpAllH_one 13 rfl (by kernel_rfl) ?_
  go_wp2_with fail
  refine (scmp_any _ _ _ _ _ _ _ _ _ _ _ _ (hM.step hS) (List.Mem.tail _ (List.Mem.head _)) (List.Mem.head _)).mono ?_
  rintro e w1 ⟨⟨z2, rfl⟩, rfl⟩
  go_wp2_with fail
  refine then_normal ⟨hS, ?_⟩
  refine wpAllH_one 14 rfl (by kernel_rfl) ?_
  refine nb2i (x := z1) (y := z2) (Mem.start [] wd) ?_
  intro g3 w3 hF
  refine wpList_then ⟨hF.below, ?_⟩
  replace hM := hM.frame hF
  simp only [List.cons_append, List.nil_append] at hM
  clear hS
  have hS := hF.below
  clear hF
  refine wpAllH_one 15 rfl (by kernel_rfl) ?_
  go_wp2_with fail
  refine (cor_any _ _ _ hM (List.Mem.head _)).mono ?_
  rintro e w1 ⟨⟨z3, rfl⟩, rfl⟩
  go_wp2_with fail
  refine then_normal ⟨hS, ?_⟩
  refine wpAllH_takes [16] (by kernel_rfl) (fun _ _ _ _ _ h => h) hS (by kernel_rfl) ?_
  simp only [pickOps, List.filterMap_cons, List.filterMap_nil, List.getElem?_cons_zero, List.getElem?_cons_succ]
  repeat ((with_reducible apply wpHeld_step); (· rfl); (· (intro wq hSw; first | (go_simp; rfl) | (have hM' := HM0.out.step hSw; first | exact yields_load (C := fun _ => True) (nqc hM') rfl | exact yields_load (C := fun _ => True) (nql hM') rfl | exact yields_load (C := fun _ => True) (nqp hM') rfl | fail))); intro K hK; go_simp; (with_reducible refine hK _ ?_); clear hK K)
  refine wpHeld_nil ?_
  clear hS HM0
  refine wpAllH_done (by kernel_rfl) ?_
  go_wp2_with fail
  go_ret
  exact ⟨⟨_, rfl⟩, hM.below⟩
end
end Go.Proofs.YtpjphjokhccdaaaGreat
