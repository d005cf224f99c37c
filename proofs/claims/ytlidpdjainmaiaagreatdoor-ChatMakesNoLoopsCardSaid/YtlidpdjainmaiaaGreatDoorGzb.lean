/- Seat c: ParseLine. -/
import Derived.Test.YtlidpdjainmaiaaGreatDoorGza
namespace Go.Thg
open Go Go.RowKit Go.Bul
theorem results_ctt {P : Program} {w : World} {fn : Func} {p u u2 : Tmp} {ty : TypeId} (h : fn.results = #[.cell p ty, .tmp u, .tmp u2]) {tmps : Array Value} : (results fn tmps).run P w =
      ((asAddr (tmps.getD p undef)).run P w).andThen fun a w₁ => ((loadVar ty a).run P w₁).andThen fun v w₂ => .ok (.tuple #[v, tmps.getD u undef, tmps.getD u2 undef]) w₂ := by
  simp only [results, h]
  simp [Sem.run_bind, Result.andThen]
theorem results_mem_ctt {P : Program} {w w0 : World} {G : List Nat} {L : List Ent} {R : List Thing} (hM : Mem G w0 L R w) {fn : Func} {p u u2 : Tmp} {ty : TypeId} (h : fn.results = #[.cell p ty, .tmp u, .tmp u2]) {tmps : Array Value} {g : Nat} {e e2 : Value} (hp : tmps.getD p undef = .pointer (some ⟨g, 0, none⟩)) {t : TypeId} {n : Nat} {cs : Array Value}
    (hL : ⟨g, t, n, cs⟩ ∈ L) (hty : RowTy P ty n) (he : tmps.getD u undef = e) (he2 : tmps.getD u2 undef = e2) : (results fn tmps).run P w = .ok (.tuple #[.agg cs, e, e2]) w := by
  obtain ⟨d, hu, hd, hi⟩ := hty.ex
  have hl := run_loadVar_row (P := P) w g t ty cs (0, 0) d (hM.blk hL) hu (by cases d <;> simp_all [isRow]) (by rw [hi, hM.size hL])
  rw [results_ctt h, hp, he, he2]
  simp [asAddr, hl]
end Go.Thg
namespace Go.Proofs.YtlidpdjainmaiaaGreatDoor
open Go Go.RowKit Go.Bul Go.Thg Go.Lin Go.Cht
theorem info_fe : (Tryz.prog.info? 38).map (fun i => (i.zero, i.size)) = some (some .nilFunc, 1) := by kernel_rfl
theorem run_b6 {f0 f1 f2 f3 f4 f5 : Value} (h0 : f0.oneCell' = true) (h1 : f1.oneCell' = true) (h2 : f2.oneCell' = true) (h3 : f3.oneCell' = true) (h4 : f4.oneCell' = true) (h5 : f5.oneCell' = true) (w : World) :
    (Instr.buildSlice 86 6 #[(0, f0), (1, f1), (2, f2), (3, f3), (4, f4), (5, f5)]).run Tryz.prog w = .ok (.slice (some ⟨w.heap.size, 0, none⟩) 6 6) (w.alloc (.cells #[f0, f1, f2, f3, f4, f5] 38)) := by
  have hc : ∀ v : Value, v.oneCell' = true → v.cells = #[v] := fun v h => by cases v <;> simp_all [Value.cells, Value.oneCell']
  have h := info_fe
  cases hq : Tryz.prog.info? 38 with
  | none => rw [hq] at h; simp at h
  | some i =>
    rw [hq] at h
    simp only [Option.map_some, Option.some.injEq, Prod.mk.injEq] at h
    refine run_buildSlice w _ _ 6 _ _ i _ Tryz.underlying86 hq h.1 (by rw [h.2]; decide) (by rw [h.2]; decide) ?_
    rw [h.2]
    have hz : Array.map (fun x => (Value.nilFunc).cells[x % (Value.nilFunc).cells.size]!) (Array.range (6 * 1)) = #[Value.nilFunc, Value.nilFunc, Value.nilFunc, Value.nilFunc, Value.nilFunc, Value.nilFunc] := by kernel_rfl
    rw [hz]
    simp [Instr.fill, hc _ h0, hc _ h1, hc _ h2, hc _ h3, hc _ h4, hc _ h5]
section
variable {w w0 : World} {G : List Nat} {L : List Ent} {R : List Thing} {ops : Array Oper} {rest : List Oper} {o : Oper} {a : Act} {Q : Exit → Act → World → Prop} {x0 x1 x2 x3 x4 x5 : Operand} {f0 f1 f2 f3 f4 f5 : Value}
theorem gb6 (hM : Mem G w0 L R w) (h : ∀ g w', Mem G w0 (⟨g, 38, 6, #[f0, f1, f2, f3, f4, f5]⟩ :: L) R w' → wpList Tryz.prog ops Q rest (a.put o.dst (.slice (some ⟨g, 0, none⟩) 6 6)) w')
    (hgd : o.guard = none := by rfl) (ho : o.op = .buildSlice 86 6 #[(0, x0), (1, x1), (2, x2), (3, x3), (4, x4), (5, x5)] := by rfl) (e0 : a.eval x0 = f0 := by (go_simp; rfl)) (e1 : a.eval x1 = f1 := by (go_simp; rfl)) (e2 : a.eval x2 = f2 := by (go_simp; rfl)) (e3 : a.eval x3 = f3 := by (go_simp; rfl)) (e4 : a.eval x4 = f4 := by (go_simp; rfl)) (e5 : a.eval x5 = f5 := by (go_simp; rfl))
    (h0 : f0.oneCell' = true := by rfl) (h1 : f1.oneCell' = true := by rfl) (h2 : f2.oneCell' = true := by rfl) (h3 : f3.oneCell' = true := by rfl) (h4 : f4.oneCell' = true := by rfl) (h5 : f5.oneCell' = true := by rfl) : wpList Tryz.prog ops Q (o :: rest) a w := by
  refine wpList_plain hgd fun K hK => ?_
  unfold Oper.wp execOp
  simp only [ho, List.map_toArray, List.map_cons, List.map_nil, e0, e1, e2, e3, e4, e5, Sem.run_bind, run_b6 h0 h1 h2 h3 h4 h5, Result.andThen_ok]
  exact hK _ _ (h _ _ (hM.alloc _ _ rfl))
end
set_option maxRecDepth 20000 in
set_option maxHeartbeats 4000000 in
theorem parse_nick (s : ByteArray) (N : Nat) (A r1 r2 r3 rest : List Nat) (w : World) (hs1 : (nums s).drop 0 = nums ⟨#[91]⟩ ++ r1) (hs2 : (nums s).drop (0 + 1) = digN N ++ 93 :: r2) (hs3 : (nums s).drop (0 + 1 + (digN N).length + 1) = nums ⟨#[32, 60]⟩ ++ r3) (hs4 : (nums s).drop (0 + 1 + (digN N).length + 1 + 2) = A ++ 62 :: rest) (hA : 62 ∉ A) (hA0 : 0 < A.length) (hN : N ≤ 105190559) (h9 : s.size ≤ 1000000000) (hv : nickB A = false) :
    Calls Tryz.prog 27 #[.string s] w fun e w' => e = .returned (.tuple #[.agg #[.int .i64 0, .string ⟨#[]⟩, .string ⟨#[]⟩], .int .i64 ((0 + 1 + (digN N).length + 1 + 2 : Nat) : Int), .int .i64 12]) ∧ Below w.heap.size w w' := by
  have HX := Lib.hid (And.intro hA (And.intro hA0 hv))
  clear hA hA0 hv
  have hM := Mem.start [] w
  have HS1 := Lib.hid hs1
  have HS2 := Lib.hid hs2
  have HS3 := Lib.hid hs3
  have HS4 := Lib.hid hs4
  have H9 := Lib.hid h9
  have HNN := Lib.hid hN
  clear hs1 hs2 hs3 hs4 h9 hN
  go_enter Tryz.func27, Tryz.ntmps27
  go_wp2_with (first | ((with_reducible refine at_bslice ?_); refine gb6 hM ?_; clear hM; intro gx wx hM) | ((with_reducible refine at_box ?_); refine nlx hM ?_ (hx := by (go_simp; rfl)); clear hM; intro gx wx hM) | ((first | with_reducible refine at_load ?_ | ((with_reducible refine at_load_g ?_ ?_); (· rfl))); first | refine nll hM ?_ | refine nlc hM ?_ | refine nlp hM ?_) | ((with_reducible refine at_store ?_); first | (refine nlw hM ?_; clear hM; intro wx hM) | (refine nls hM ?_; clear hM; intro wx hM) | (refine nlt hM ?_; clear hM; intro wx hM)) | ((with_reducible refine at_alloc ?_); refine nlz hM ?_; clear hM; intro gx wx hM) | ((with_reducible refine at_box ?_); first | (refine nlb hM ?_; clear hM; intro gx wx hM) | (refine nlx hM ?_; clear hM; intro gx wx hM)))
  obtain ⟨gf, hgf⟩ : ∃ gf, gf = gx := ⟨_, rfl⟩
  subst hgf
  have hM1 := hM.permL (List.perm_append_singleton _ _)
  clear hM
  simp only [List.cons_append, List.nil_append] at hM1
  have hM2 := hM1.permL (.cons _ (.cons _ (.cons _ (.swap _ _ _))))
  clear hM1
  have hM : Mem [] w (pL _ _ _ _ s 0 0 ⟨#[]⟩ ⟨#[]⟩ [_, _]) [] _ := hM2
  clear hM2
  refine wp_loop_rounds 7 ?_
  rw [rounds_succ]
  go_wp2_with (first | ((with_reducible refine (step1_any _ _ _ _ _ _ _ _ _ _ hM HS1.out H9.out).mono ?_); rintro e w1 ⟨rfl, hM2⟩; clear hM; have hM := hM2; clear hM2) | ((first | with_reducible refine at_load ?_ | ((with_reducible refine at_load_g ?_ ?_); (· rfl))); first | refine nll hM ?_ | refine nlc hM ?_ | refine nlp hM ?_) | ((with_reducible refine at_store ?_); first | (refine nlw hM ?_; clear hM; intro wx hM) | (refine nls hM ?_; clear hM; intro wx hM) | (refine nlt hM ?_; clear hM; intro wx hM)) | ((with_reducible refine at_alloc ?_); refine nlz hM ?_; clear hM; intro gx wx hM) | ((with_reducible refine at_box ?_); first | (refine nlb hM ?_; clear hM; intro gx wx hM) | (refine nlx hM ?_; clear hM; intro gx wx hM)))
  rw [rounds_succ]
  go_wp2_with (first | ((with_reducible refine (step2_any _ _ _ _ _ _ _ _ _ _ _ hM HS2.out HNN.out H9.out).mono ?_); rintro e w1 ⟨rfl, hM2⟩; clear hM; have hM := hM2; clear hM2) | ((first | with_reducible refine at_load ?_ | ((with_reducible refine at_load_g ?_ ?_); (· rfl))); first | refine nll hM ?_ | refine nlc hM ?_ | refine nlp hM ?_) | ((with_reducible refine at_store ?_); first | (refine nlw hM ?_; clear hM; intro wx hM) | (refine nls hM ?_; clear hM; intro wx hM) | (refine nlt hM ?_; clear hM; intro wx hM)) | ((with_reducible refine at_alloc ?_); refine nlz hM ?_; clear hM; intro gx wx hM) | ((with_reducible refine at_box ?_); first | (refine nlb hM ?_; clear hM; intro gx wx hM) | (refine nlx hM ?_; clear hM; intro gx wx hM)))
  rw [rounds_succ]
  go_wp2_with (first | ((with_reducible refine (step3_any _ _ _ _ _ _ _ _ _ _ hM HS3.out H9.out).mono ?_); rintro e w1 ⟨rfl, hM2⟩; clear hM; have hM := hM2; clear hM2) | ((first | with_reducible refine at_load ?_ | ((with_reducible refine at_load_g ?_ ?_); (· rfl))); first | refine nll hM ?_ | refine nlc hM ?_ | refine nlp hM ?_) | ((with_reducible refine at_store ?_); first | (refine nlw hM ?_; clear hM; intro wx hM) | (refine nls hM ?_; clear hM; intro wx hM) | (refine nlt hM ?_; clear hM; intro wx hM)) | ((with_reducible refine at_alloc ?_); refine nlz hM ?_; clear hM; intro gx wx hM) | ((with_reducible refine at_box ?_); first | (refine nlb hM ?_; clear hM; intro gx wx hM) | (refine nlx hM ?_; clear hM; intro gx wx hM)))
  rw [rounds_succ]
  go_wp2_with (first | ((with_reducible refine (step4_no _ _ _ _ _ _ _ _ _ _ _ hM HS4.out HX.out.1 HX.out.2.1 H9.out HX.out.2.2).mono ?_); rintro e w1 ⟨rfl, hM2⟩; clear hM; have hM := hM2; clear hM2) | ((first | with_reducible refine at_load ?_ | ((with_reducible refine at_load_g ?_ ?_); (· rfl))); first | refine nll hM ?_ | refine nlc hM ?_ | refine nlp hM ?_) | ((with_reducible refine at_store ?_); first | (refine nlw hM ?_; clear hM; intro wx hM) | (refine nls hM ?_; clear hM; intro wx hM) | (refine nlt hM ?_; clear hM; intro wx hM)) | ((with_reducible refine at_alloc ?_); refine nlz hM ?_; clear hM; intro gx wx hM) | ((with_reducible refine at_box ?_); first | (refine nlb hM ?_; clear hM; intro gx wx hM) | (refine nlx hM ?_; clear hM; intro gx wx hM)))
  refine wp_region_allN hM (by kernel_rfl) ?_
  clear hM
  intro wd hM
  refine wpAll_takes [0, 2] (by kernel_rfl) (fun _ _ _ _ _ h => h) (by kernel_rfl) ?_
  simp only [pickOps, List.filterMap_cons, List.filterMap_nil, List.getElem?_cons_zero, List.getElem?_cons_succ]
  repeat ((with_reducible apply wpPure_step); (· rfl); (· (intro w; go_simp; rfl)); intro K hK; go_simp; (with_reducible refine hK _ ?_); clear hK K)
  refine wpPure_nil ?_
  refine wpAll_two 1 3 rfl rfl (by kernel_rfl) ?_ ?_
  · refine nlc hM ?_
    refine wpList_then ?_
    go_simp
    refine wpAll_seq [3, 4, 5] (by kernel_rfl) ?_
    simp only [pickOps, List.filterMap_cons, List.filterMap_nil, List.getElem?_cons_zero, List.getElem?_cons_succ]
    repeat (first | ((first | ((first | with_reducible refine at_load ?_ | ((with_reducible refine at_load_g ?_ ?_); (· rfl))); first | refine nll hM ?_ | refine nlc hM ?_ | refine nlp hM ?_) | ((with_reducible refine at_store ?_); first | (refine nlw hM ?_; clear hM; intro wx hM) | (refine nls hM ?_; clear hM; intro wx hM) | (refine nlt hM ?_; clear hM; intro wx hM)) | ((with_reducible refine at_alloc ?_); refine nlz hM ?_; clear hM; intro gx wx hM) | ((with_reducible refine at_box ?_); first | (refine nlb hM ?_; clear hM; intro gx wx hM) | (refine nlx hM ?_; clear hM; intro gx wx hM))); go_simp) | ((with_reducible apply wpList_pure); (· rfl); (· (go_simp; rfl)); go_simp))
    refine wpList_end ?_
    go_wp2_with fail
    exact bodyPost_ret (results_mem_ctt hM rfl (by rfl) (List.Mem.tail _ (List.Mem.tail _ (List.Mem.tail _ (List.Mem.tail _ (List.Mem.head _))))) row_line (by rfl) (by rfl)) rfl ⟨rfl, hM.below⟩
  · refine nlw hM ?_
    clear hM
    intro wx hM
    refine wpList_then ?_
    go_simp
    refine wpAll_seq [1, 4, 5] (by kernel_rfl) ?_
    simp only [pickOps, List.filterMap_cons, List.filterMap_nil, List.getElem?_cons_zero, List.getElem?_cons_succ]
    repeat (first | ((first | ((first | with_reducible refine at_load ?_ | ((with_reducible refine at_load_g ?_ ?_); (· rfl))); first | refine nll hM ?_ | refine nlc hM ?_ | refine nlp hM ?_) | ((with_reducible refine at_store ?_); first | (refine nlw hM ?_; clear hM; intro wx hM) | (refine nls hM ?_; clear hM; intro wx hM) | (refine nlt hM ?_; clear hM; intro wx hM)) | ((with_reducible refine at_alloc ?_); refine nlz hM ?_; clear hM; intro gx wx hM) | ((with_reducible refine at_box ?_); first | (refine nlb hM ?_; clear hM; intro gx wx hM) | (refine nlx hM ?_; clear hM; intro gx wx hM))); go_simp) | ((with_reducible apply wpList_pure); (· rfl); (· (go_simp; rfl)); go_simp))
    refine wpList_end ?_
    go_wp2_with fail
    exact bodyPost_ret (results_mem_ctt hM rfl (by rfl) (List.Mem.tail _ (List.Mem.tail _ (List.Mem.tail _ (List.Mem.tail _ (List.Mem.head _))))) row_line (by rfl) (by rfl)) rfl ⟨rfl, hM.below⟩
set_option maxRecDepth 20000 in
set_option maxHeartbeats 4000000 in
theorem parse_text (s : ByteArray) (N : Nat) (A r1 r2 r3 rest T : List Nat) (z : Int) (w : World) (hs1 : (nums s).drop 0 = nums ⟨#[91]⟩ ++ r1) (hs2 : (nums s).drop (0 + 1) = digN N ++ 93 :: r2) (hs3 : (nums s).drop (0 + 1 + (digN N).length + 1) = nums ⟨#[32, 60]⟩ ++ r3) (hs4 : (nums s).drop (0 + 1 + (digN N).length + 1 + 2) = A ++ 62 :: rest) (hs5 : (nums s).drop (0 + 1 + (digN N).length + 1 + 2 + A.length + 1) = nums ⟨#[32]⟩ ++ T) (hs6 : (nums s).drop (0 + 1 + (digN N).length + 1 + 2 + A.length + 1 + 1) = T) (hs7 : 0 + 1 + (digN N).length + 1 + 2 + A.length + 1 + 1 ≤ s.size) (hA : 62 ∉ A) (hA0 : 0 < A.length) (hN : N ≤ 105190559) (h9 : s.size ≤ 1000000000) (hv : nickB A = true) (hT : chkT T = z) (hz : (z != 0) = true) :
    Calls Tryz.prog 27 #[.string s] w fun e w' => e = .returned (.tuple #[.agg #[.int .i64 0, .string ⟨#[]⟩, .string ⟨#[]⟩], .int .i64 ((0 + 1 + (digN N).length + 1 + 2 + A.length + 1 + 1 : Nat) : Int), .int .i64 z]) ∧ Below w.heap.size w w' := by
  have HX := Lib.hid (And.intro hA (And.intro hA0 hv))
  have HS5 := Lib.hid hs5
  have HS6 := Lib.hid (And.intro hs6 hs7)
  have HZ := Lib.hid hT
  clear hA hA0 hv hs5 hs6 hs7 hT
  have hM := Mem.start [] w
  have HS1 := Lib.hid hs1
  have HS2 := Lib.hid hs2
  have HS3 := Lib.hid hs3
  have HS4 := Lib.hid hs4
  have H9 := Lib.hid h9
  have HNN := Lib.hid hN
  clear hs1 hs2 hs3 hs4 h9 hN
  go_enter Tryz.func27, Tryz.ntmps27
  go_wp2_with (first | ((with_reducible refine at_bslice ?_); refine gb6 hM ?_; clear hM; intro gx wx hM) | ((with_reducible refine at_box ?_); refine nlx hM ?_ (hx := by (go_simp; rfl)); clear hM; intro gx wx hM) | ((first | with_reducible refine at_load ?_ | ((with_reducible refine at_load_g ?_ ?_); (· rfl))); first | refine nll hM ?_ | refine nlc hM ?_ | refine nlp hM ?_) | ((with_reducible refine at_store ?_); first | (refine nlw hM ?_; clear hM; intro wx hM) | (refine nls hM ?_; clear hM; intro wx hM) | (refine nlt hM ?_; clear hM; intro wx hM)) | ((with_reducible refine at_alloc ?_); refine nlz hM ?_; clear hM; intro gx wx hM) | ((with_reducible refine at_box ?_); first | (refine nlb hM ?_; clear hM; intro gx wx hM) | (refine nlx hM ?_; clear hM; intro gx wx hM)))
  obtain ⟨gf, hgf⟩ : ∃ gf, gf = gx := ⟨_, rfl⟩
  subst hgf
  have hM1 := hM.permL (List.perm_append_singleton _ _)
  clear hM
  simp only [List.cons_append, List.nil_append] at hM1
  have hM2 := hM1.permL (.cons _ (.cons _ (.cons _ (.swap _ _ _))))
  clear hM1
  have hM : Mem [] w (pL _ _ _ _ s 0 0 ⟨#[]⟩ ⟨#[]⟩ [_, _]) [] _ := hM2
  clear hM2
  refine wp_loop_rounds 7 ?_
  rw [rounds_succ]
  go_wp2_with (first | ((with_reducible refine (step1_any _ _ _ _ _ _ _ _ _ _ hM HS1.out H9.out).mono ?_); rintro e w1 ⟨rfl, hM2⟩; clear hM; have hM := hM2; clear hM2) | ((first | with_reducible refine at_load ?_ | ((with_reducible refine at_load_g ?_ ?_); (· rfl))); first | refine nll hM ?_ | refine nlc hM ?_ | refine nlp hM ?_) | ((with_reducible refine at_store ?_); first | (refine nlw hM ?_; clear hM; intro wx hM) | (refine nls hM ?_; clear hM; intro wx hM) | (refine nlt hM ?_; clear hM; intro wx hM)) | ((with_reducible refine at_alloc ?_); refine nlz hM ?_; clear hM; intro gx wx hM) | ((with_reducible refine at_box ?_); first | (refine nlb hM ?_; clear hM; intro gx wx hM) | (refine nlx hM ?_; clear hM; intro gx wx hM)))
  rw [rounds_succ]
  go_wp2_with (first | ((with_reducible refine (step2_any _ _ _ _ _ _ _ _ _ _ _ hM HS2.out HNN.out H9.out).mono ?_); rintro e w1 ⟨rfl, hM2⟩; clear hM; have hM := hM2; clear hM2) | ((first | with_reducible refine at_load ?_ | ((with_reducible refine at_load_g ?_ ?_); (· rfl))); first | refine nll hM ?_ | refine nlc hM ?_ | refine nlp hM ?_) | ((with_reducible refine at_store ?_); first | (refine nlw hM ?_; clear hM; intro wx hM) | (refine nls hM ?_; clear hM; intro wx hM) | (refine nlt hM ?_; clear hM; intro wx hM)) | ((with_reducible refine at_alloc ?_); refine nlz hM ?_; clear hM; intro gx wx hM) | ((with_reducible refine at_box ?_); first | (refine nlb hM ?_; clear hM; intro gx wx hM) | (refine nlx hM ?_; clear hM; intro gx wx hM)))
  rw [rounds_succ]
  go_wp2_with (first | ((with_reducible refine (step3_any _ _ _ _ _ _ _ _ _ _ hM HS3.out H9.out).mono ?_); rintro e w1 ⟨rfl, hM2⟩; clear hM; have hM := hM2; clear hM2) | ((first | with_reducible refine at_load ?_ | ((with_reducible refine at_load_g ?_ ?_); (· rfl))); first | refine nll hM ?_ | refine nlc hM ?_ | refine nlp hM ?_) | ((with_reducible refine at_store ?_); first | (refine nlw hM ?_; clear hM; intro wx hM) | (refine nls hM ?_; clear hM; intro wx hM) | (refine nlt hM ?_; clear hM; intro wx hM)) | ((with_reducible refine at_alloc ?_); refine nlz hM ?_; clear hM; intro gx wx hM) | ((with_reducible refine at_box ?_); first | (refine nlb hM ?_; clear hM; intro gx wx hM) | (refine nlx hM ?_; clear hM; intro gx wx hM)))
  rw [rounds_succ]
  go_wp2_with (first | ((with_reducible refine (step4_yes _ _ _ _ _ _ _ _ _ _ _ hM HS4.out HX.out.1 HX.out.2.1 H9.out HX.out.2.2).mono ?_); rintro e w1 ⟨rfl, hM2⟩; clear hM; have hM := hM2; clear hM2) | ((first | with_reducible refine at_load ?_ | ((with_reducible refine at_load_g ?_ ?_); (· rfl))); first | refine nll hM ?_ | refine nlc hM ?_ | refine nlp hM ?_) | ((with_reducible refine at_store ?_); first | (refine nlw hM ?_; clear hM; intro wx hM) | (refine nls hM ?_; clear hM; intro wx hM) | (refine nlt hM ?_; clear hM; intro wx hM)) | ((with_reducible refine at_alloc ?_); refine nlz hM ?_; clear hM; intro gx wx hM) | ((with_reducible refine at_box ?_); first | (refine nlb hM ?_; clear hM; intro gx wx hM) | (refine nlx hM ?_; clear hM; intro gx wx hM)))
  rw [rounds_succ]
  go_wp2_with (first | ((with_reducible refine (step5_any _ _ _ _ _ _ _ _ _ _ hM HS5.out H9.out).mono ?_); rintro e w1 ⟨rfl, hM2⟩; clear hM; have hM := hM2; clear hM2) | ((first | with_reducible refine at_load ?_ | ((with_reducible refine at_load_g ?_ ?_); (· rfl))); first | refine nll hM ?_ | refine nlc hM ?_ | refine nlp hM ?_) | ((with_reducible refine at_store ?_); first | (refine nlw hM ?_; clear hM; intro wx hM) | (refine nls hM ?_; clear hM; intro wx hM) | (refine nlt hM ?_; clear hM; intro wx hM)) | ((with_reducible refine at_alloc ?_); refine nlz hM ?_; clear hM; intro gx wx hM) | ((with_reducible refine at_box ?_); first | (refine nlb hM ?_; clear hM; intro gx wx hM) | (refine nlx hM ?_; clear hM; intro gx wx hM)))
  rw [rounds_succ]
  go_wp2_with (first | ((with_reducible refine (step6_any _ _ _ _ _ _ _ _ _ _ hM HS6.out.1 HS6.out.2 H9.out).mono ?_); rintro e w1 ⟨rfl, hM2⟩; clear hM; have hM := hM2; clear hM2; simp only [HZ.out]) | ((first | with_reducible refine at_load ?_ | ((with_reducible refine at_load_g ?_ ?_); (· rfl))); first | refine nll hM ?_ | refine nlc hM ?_ | refine nlp hM ?_) | ((with_reducible refine at_store ?_); first | (refine nlw hM ?_; clear hM; intro wx hM) | (refine nls hM ?_; clear hM; intro wx hM) | (refine nlt hM ?_; clear hM; intro wx hM)) | ((with_reducible refine at_alloc ?_); refine nlz hM ?_; clear hM; intro gx wx hM) | ((with_reducible refine at_box ?_); first | (refine nlb hM ?_; clear hM; intro gx wx hM) | (refine nlx hM ?_; clear hM; intro gx wx hM)))
  refine wp_region_allN hM (by kernel_rfl) ?_
  clear hM
  intro wd hM
  refine wpAll_takes [0, 2] (by kernel_rfl) (fun _ _ _ _ _ h => h) (by kernel_rfl) ?_
  simp only [pickOps, List.filterMap_cons, List.filterMap_nil, List.getElem?_cons_zero, List.getElem?_cons_succ]
  repeat ((with_reducible apply wpPure_step); (· rfl); (· (intro w; go_simp; rfl)); intro K hK; go_simp; (with_reducible refine hK _ ?_); clear hK K)
  refine wpPure_nil ?_
  refine wpAll_two 1 3 rfl rfl (by kernel_rfl) ?_ ?_
  · refine nlc hM ?_
    refine wpList_then ?_
    go_simp
    refine wpAll_seq [3, 4, 5] (by kernel_rfl) ?_
    simp only [pickOps, List.filterMap_cons, List.filterMap_nil, List.getElem?_cons_zero, List.getElem?_cons_succ]
    repeat (first | ((first | ((first | with_reducible refine at_load ?_ | ((with_reducible refine at_load_g ?_ ?_); (· rfl))); first | refine nll hM ?_ | refine nlc hM ?_ | refine nlp hM ?_) | ((with_reducible refine at_store ?_); first | (refine nlw hM ?_; clear hM; intro wx hM) | (refine nls hM ?_; clear hM; intro wx hM) | (refine nlt hM ?_; clear hM; intro wx hM)) | ((with_reducible refine at_alloc ?_); refine nlz hM ?_; clear hM; intro gx wx hM) | ((with_reducible refine at_box ?_); first | (refine nlb hM ?_; clear hM; intro gx wx hM) | (refine nlx hM ?_; clear hM; intro gx wx hM))); go_simp) | ((with_reducible apply wpList_pure); (· rfl); (· (go_simp; rfl)); go_simp))
    refine wpList_end ?_
    go_wp2_with fail
    exact bodyPost_ret (results_mem_ctt hM rfl (by rfl) (List.Mem.tail _ (List.Mem.tail _ (List.Mem.tail _ (List.Mem.tail _ (List.Mem.head _))))) row_line (by rfl) (by rfl)) rfl ⟨rfl, hM.below⟩
  · refine nlw hM ?_
    clear hM
    intro wx hM
    refine wpList_then ?_
    go_simp
    refine wpAll_seq [1, 4, 5] (by kernel_rfl) ?_
    simp only [pickOps, List.filterMap_cons, List.filterMap_nil, List.getElem?_cons_zero, List.getElem?_cons_succ]
    repeat (first | ((first | ((first | with_reducible refine at_load ?_ | ((with_reducible refine at_load_g ?_ ?_); (· rfl))); first | refine nll hM ?_ | refine nlc hM ?_ | refine nlp hM ?_) | ((with_reducible refine at_store ?_); first | (refine nlw hM ?_; clear hM; intro wx hM) | (refine nls hM ?_; clear hM; intro wx hM) | (refine nlt hM ?_; clear hM; intro wx hM)) | ((with_reducible refine at_alloc ?_); refine nlz hM ?_; clear hM; intro gx wx hM) | ((with_reducible refine at_box ?_); first | (refine nlb hM ?_; clear hM; intro gx wx hM) | (refine nlx hM ?_; clear hM; intro gx wx hM))); go_simp) | ((with_reducible apply wpList_pure); (· rfl); (· (go_simp; rfl)); go_simp))
    refine wpList_end ?_
    go_wp2_with fail
    exact bodyPost_ret (results_mem_ctt hM rfl (by rfl) (List.Mem.tail _ (List.Mem.tail _ (List.Mem.tail _ (List.Mem.tail _ (List.Mem.head _))))) row_line (by rfl) (by rfl)) rfl ⟨rfl, hM.below⟩
set_option maxRecDepth 20000 in
set_option maxHeartbeats 4000000 in
theorem parse_yes (s : ByteArray) (N : Nat) (A r1 r2 r3 rest T : List Nat) (w : World) (hs1 : (nums s).drop 0 = nums ⟨#[91]⟩ ++ r1) (hs2 : (nums s).drop (0 + 1) = digN N ++ 93 :: r2) (hs3 : (nums s).drop (0 + 1 + (digN N).length + 1) = nums ⟨#[32, 60]⟩ ++ r3) (hs4 : (nums s).drop (0 + 1 + (digN N).length + 1 + 2) = A ++ 62 :: rest) (hs5 : (nums s).drop (0 + 1 + (digN N).length + 1 + 2 + A.length + 1) = nums ⟨#[32]⟩ ++ T) (hs6 : (nums s).drop (0 + 1 + (digN N).length + 1 + 2 + A.length + 1 + 1) = T) (hs7 : 0 + 1 + (digN N).length + 1 + 2 + A.length + 1 + 1 ≤ s.size) (hA : 62 ∉ A) (hA0 : 0 < A.length) (hN : N ≤ 105190559) (h9 : s.size ≤ 1000000000) (hv : nickB A = true) (hT : chkT T = 0) :
    Calls Tryz.prog 27 #[.string s] w fun e w' => e = .returned (.tuple #[.agg #[.int .i64 (N : Nat), .string (bstr A), .string (bstr T)], .int .i64 0, .int .i64 0]) ∧ Below w.heap.size w w' := by
  have HX := Lib.hid (And.intro hA (And.intro hA0 hv))
  have HS5 := Lib.hid hs5
  have HS6 := Lib.hid (And.intro hs6 hs7)
  have HZ := Lib.hid hT
  clear hA hA0 hv hs5 hs6 hs7 hT
  have hM := Mem.start [] w
  have HS1 := Lib.hid hs1
  have HS2 := Lib.hid hs2
  have HS3 := Lib.hid hs3
  have HS4 := Lib.hid hs4
  have H9 := Lib.hid h9
  have HNN := Lib.hid hN
  clear hs1 hs2 hs3 hs4 h9 hN
  go_enter Tryz.func27, Tryz.ntmps27
  go_wp2_with (first | ((with_reducible refine at_bslice ?_); refine gb6 hM ?_; clear hM; intro gx wx hM) | ((with_reducible refine at_box ?_); refine nlx hM ?_ (hx := by (go_simp; rfl)); clear hM; intro gx wx hM) | ((first | with_reducible refine at_load ?_ | ((with_reducible refine at_load_g ?_ ?_); (· rfl))); first | refine nll hM ?_ | refine nlc hM ?_ | refine nlp hM ?_) | ((with_reducible refine at_store ?_); first | (refine nlw hM ?_; clear hM; intro wx hM) | (refine nls hM ?_; clear hM; intro wx hM) | (refine nlt hM ?_; clear hM; intro wx hM)) | ((with_reducible refine at_alloc ?_); refine nlz hM ?_; clear hM; intro gx wx hM) | ((with_reducible refine at_box ?_); first | (refine nlb hM ?_; clear hM; intro gx wx hM) | (refine nlx hM ?_; clear hM; intro gx wx hM)))
  obtain ⟨gf, hgf⟩ : ∃ gf, gf = gx := ⟨_, rfl⟩
  subst hgf
  have hM1 := hM.permL (List.perm_append_singleton _ _)
  clear hM
  simp only [List.cons_append, List.nil_append] at hM1
  have hM2 := hM1.permL (.cons _ (.cons _ (.cons _ (.swap _ _ _))))
  clear hM1
  have hM : Mem [] w (pL _ _ _ _ s 0 0 ⟨#[]⟩ ⟨#[]⟩ [_, _]) [] _ := hM2
  clear hM2
  refine wp_loop_rounds 7 ?_
  rw [rounds_succ]
  go_wp2_with (first | ((with_reducible refine (step1_any _ _ _ _ _ _ _ _ _ _ hM HS1.out H9.out).mono ?_); rintro e w1 ⟨rfl, hM2⟩; clear hM; have hM := hM2; clear hM2) | ((first | with_reducible refine at_load ?_ | ((with_reducible refine at_load_g ?_ ?_); (· rfl))); first | refine nll hM ?_ | refine nlc hM ?_ | refine nlp hM ?_) | ((with_reducible refine at_store ?_); first | (refine nlw hM ?_; clear hM; intro wx hM) | (refine nls hM ?_; clear hM; intro wx hM) | (refine nlt hM ?_; clear hM; intro wx hM)) | ((with_reducible refine at_alloc ?_); refine nlz hM ?_; clear hM; intro gx wx hM) | ((with_reducible refine at_box ?_); first | (refine nlb hM ?_; clear hM; intro gx wx hM) | (refine nlx hM ?_; clear hM; intro gx wx hM)))
  rw [rounds_succ]
  go_wp2_with (first | ((with_reducible refine (step2_any _ _ _ _ _ _ _ _ _ _ _ hM HS2.out HNN.out H9.out).mono ?_); rintro e w1 ⟨rfl, hM2⟩; clear hM; have hM := hM2; clear hM2) | ((first | with_reducible refine at_load ?_ | ((with_reducible refine at_load_g ?_ ?_); (· rfl))); first | refine nll hM ?_ | refine nlc hM ?_ | refine nlp hM ?_) | ((with_reducible refine at_store ?_); first | (refine nlw hM ?_; clear hM; intro wx hM) | (refine nls hM ?_; clear hM; intro wx hM) | (refine nlt hM ?_; clear hM; intro wx hM)) | ((with_reducible refine at_alloc ?_); refine nlz hM ?_; clear hM; intro gx wx hM) | ((with_reducible refine at_box ?_); first | (refine nlb hM ?_; clear hM; intro gx wx hM) | (refine nlx hM ?_; clear hM; intro gx wx hM)))
  rw [rounds_succ]
  go_wp2_with (first | ((with_reducible refine (step3_any _ _ _ _ _ _ _ _ _ _ hM HS3.out H9.out).mono ?_); rintro e w1 ⟨rfl, hM2⟩; clear hM; have hM := hM2; clear hM2) | ((first | with_reducible refine at_load ?_ | ((with_reducible refine at_load_g ?_ ?_); (· rfl))); first | refine nll hM ?_ | refine nlc hM ?_ | refine nlp hM ?_) | ((with_reducible refine at_store ?_); first | (refine nlw hM ?_; clear hM; intro wx hM) | (refine nls hM ?_; clear hM; intro wx hM) | (refine nlt hM ?_; clear hM; intro wx hM)) | ((with_reducible refine at_alloc ?_); refine nlz hM ?_; clear hM; intro gx wx hM) | ((with_reducible refine at_box ?_); first | (refine nlb hM ?_; clear hM; intro gx wx hM) | (refine nlx hM ?_; clear hM; intro gx wx hM)))
  rw [rounds_succ]
  go_wp2_with (first | ((with_reducible refine (step4_yes _ _ _ _ _ _ _ _ _ _ _ hM HS4.out HX.out.1 HX.out.2.1 H9.out HX.out.2.2).mono ?_); rintro e w1 ⟨rfl, hM2⟩; clear hM; have hM := hM2; clear hM2) | ((first | with_reducible refine at_load ?_ | ((with_reducible refine at_load_g ?_ ?_); (· rfl))); first | refine nll hM ?_ | refine nlc hM ?_ | refine nlp hM ?_) | ((with_reducible refine at_store ?_); first | (refine nlw hM ?_; clear hM; intro wx hM) | (refine nls hM ?_; clear hM; intro wx hM) | (refine nlt hM ?_; clear hM; intro wx hM)) | ((with_reducible refine at_alloc ?_); refine nlz hM ?_; clear hM; intro gx wx hM) | ((with_reducible refine at_box ?_); first | (refine nlb hM ?_; clear hM; intro gx wx hM) | (refine nlx hM ?_; clear hM; intro gx wx hM)))
  rw [rounds_succ]
  go_wp2_with (first | ((with_reducible refine (step5_any _ _ _ _ _ _ _ _ _ _ hM HS5.out H9.out).mono ?_); rintro e w1 ⟨rfl, hM2⟩; clear hM; have hM := hM2; clear hM2) | ((first | with_reducible refine at_load ?_ | ((with_reducible refine at_load_g ?_ ?_); (· rfl))); first | refine nll hM ?_ | refine nlc hM ?_ | refine nlp hM ?_) | ((with_reducible refine at_store ?_); first | (refine nlw hM ?_; clear hM; intro wx hM) | (refine nls hM ?_; clear hM; intro wx hM) | (refine nlt hM ?_; clear hM; intro wx hM)) | ((with_reducible refine at_alloc ?_); refine nlz hM ?_; clear hM; intro gx wx hM) | ((with_reducible refine at_box ?_); first | (refine nlb hM ?_; clear hM; intro gx wx hM) | (refine nlx hM ?_; clear hM; intro gx wx hM)))
  rw [rounds_succ]
  go_wp2_with (first | ((with_reducible refine (step6_any _ _ _ _ _ _ _ _ _ _ hM HS6.out.1 HS6.out.2 H9.out).mono ?_); rintro e w1 ⟨rfl, hM2⟩; clear hM; have hM := hM2; clear hM2; simp only [HZ.out]) | ((first | with_reducible refine at_load ?_ | ((with_reducible refine at_load_g ?_ ?_); (· rfl))); first | refine nll hM ?_ | refine nlc hM ?_ | refine nlp hM ?_) | ((with_reducible refine at_store ?_); first | (refine nlw hM ?_; clear hM; intro wx hM) | (refine nls hM ?_; clear hM; intro wx hM) | (refine nlt hM ?_; clear hM; intro wx hM)) | ((with_reducible refine at_alloc ?_); refine nlz hM ?_; clear hM; intro gx wx hM) | ((with_reducible refine at_box ?_); first | (refine nlb hM ?_; clear hM; intro gx wx hM) | (refine nlx hM ?_; clear hM; intro gx wx hM)))
  rw [rounds_succ]
  go_wp2_with (first | ((first | with_reducible refine at_load ?_ | ((with_reducible refine at_load_g ?_ ?_); (· rfl))); first | refine nll hM ?_ | refine nlc hM ?_ | refine nlp hM ?_) | ((with_reducible refine at_store ?_); first | (refine nlw hM ?_; clear hM; intro wx hM) | (refine nls hM ?_; clear hM; intro wx hM) | (refine nlt hM ?_; clear hM; intro wx hM)) | ((with_reducible refine at_alloc ?_); refine nlz hM ?_; clear hM; intro gx wx hM) | ((with_reducible refine at_box ?_); first | (refine nlb hM ?_; clear hM; intro gx wx hM) | (refine nlx hM ?_; clear hM; intro gx wx hM)))
  exact bodyPost_ret (results_mem_ctt hM rfl (by rfl) (List.Mem.tail _ (List.Mem.tail _ (List.Mem.tail _ (List.Mem.tail _ (List.Mem.head _))))) row_line (by rfl) (by rfl)) rfl ⟨rfl, hM.below⟩
/-- The printed form of a line of which not all is known to fit. -/
theorem parse_pr (l : Ln) (h : OkL l) (s : ByteArray) (hs : nums s = prL l) (h9 : s.size ≤ 1000000000) (w : World) : Calls Tryz.prog 27 #[.string s] w fun e w' => e = .returned (.tuple #[.agg (lnA l), .int .i64 0, .int .i64 0]) ∧ Below w.heap.size w w' := by
  obtain ⟨N, nk, tx⟩ := l
  have hA : 62 ∉ nums nk := fun hb => (nick_bytes h.nick _ hb).2.2 rfl
  have hA0 : 0 < (nums nk).length := by
    have := h.nick
    simp only [nickB, Bool.and_eq_true, decide_eq_true_eq] at this
    exact this.1.1.1
  replace hs : nums s = 91 :: (digN N ++ (93 :: 32 :: 60 :: (nums nk ++ (62 :: 32 :: nums tx)))) := hs
  have hv := h.nick
  have hT := h.text
  have hN := h.m
  simp only at hv hT hN
  have f1 : bstr (nums nk) = nk := bstr_of_nums _
  have f2 : bstr (nums tx) = tx := bstr_of_nums _
  obtain ⟨A, hAe⟩ : ∃ A, nums nk = A := ⟨_, rfl⟩
  obtain ⟨T, hTe⟩ : ∃ T, nums tx = T := ⟨_, rfl⟩
  rw [hAe] at hA hA0 hs hv f1
  rw [hTe] at hs hT f2
  have e1 : (nums s).drop 0 = nums ⟨#[91]⟩ ++ (digN N ++ (93 :: 32 :: 60 :: (A ++ (62 :: 32 :: T)))) := by rw [List.drop_zero, hs]; rfl
  have e2 : (nums s).drop (0 + 1) = digN N ++ 93 :: (32 :: 60 :: (A ++ (62 :: 32 :: T))) := drop_app e1
  have e3 : (nums s).drop (0 + 1 + (digN N).length + 1) = nums ⟨#[32, 60]⟩ ++ (A ++ (62 :: 32 :: T)) := drop_app (a := [93]) (drop_app e2)
  have e4 : (nums s).drop (0 + 1 + (digN N).length + 1 + 2) = A ++ 62 :: (32 :: T) := drop_app e3
  have e5 : (nums s).drop (0 + 1 + (digN N).length + 1 + 2 + A.length + 1) = nums ⟨#[32]⟩ ++ T := drop_app (a := [62]) (drop_app e4)
  have e6 : (nums s).drop (0 + 1 + (digN N).length + 1 + 2 + A.length + 1 + 1) = T := drop_app e5
  have e7 : 0 + 1 + (digN N).length + 1 + 2 + A.length + 1 + 1 ≤ s.size := by
    rw [← nums_length, hs]
    simp only [List.length_cons, List.length_append]
    omega
  refine (parse_yes s N A _ _ _ _ T w e1 e2 e3 e4 e5 e6 e7 hA hA0 hN h9 hv hT).mono ?_
  rintro e w' ⟨rfl, hb⟩
  refine ⟨?_, hb⟩
  rw [f1, f2]
  rfl
theorem parse_badnick (s : ByteArray) (N : Nat) (A T : List Nat) (hs : nums s = 91 :: (digN N ++ (93 :: 32 :: 60 :: (A ++ (62 :: 32 :: T))))) (hA : 62 ∉ A) (hA0 : 0 < A.length) (hN : N ≤ 105190559) (h9 : s.size ≤ 1000000000) (hv : nickB A = false) (w : World) :
    Calls Tryz.prog 27 #[.string s] w fun e w' => e = .returned (.tuple #[.agg #[.int .i64 0, .string ⟨#[]⟩, .string ⟨#[]⟩], .int .i64 ((0 + 1 + (digN N).length + 1 + 2 : Nat) : Int), .int .i64 12]) ∧ Below w.heap.size w w' := by
  have e1 : (nums s).drop 0 = nums ⟨#[91]⟩ ++ (digN N ++ (93 :: 32 :: 60 :: (A ++ (62 :: 32 :: T)))) := by rw [List.drop_zero, hs]; rfl
  have e2 : (nums s).drop (0 + 1) = digN N ++ 93 :: (32 :: 60 :: (A ++ (62 :: 32 :: T))) := drop_app e1
  have e3 : (nums s).drop (0 + 1 + (digN N).length + 1) = nums ⟨#[32, 60]⟩ ++ (A ++ (62 :: 32 :: T)) := drop_app (a := [93]) (drop_app e2)
  have e4 : (nums s).drop (0 + 1 + (digN N).length + 1 + 2) = A ++ 62 :: (32 :: T) := drop_app e3
  have e5 : (nums s).drop (0 + 1 + (digN N).length + 1 + 2 + A.length + 1) = nums ⟨#[32]⟩ ++ T := drop_app (a := [62]) (drop_app e4)
  have e6 : (nums s).drop (0 + 1 + (digN N).length + 1 + 2 + A.length + 1 + 1) = T := drop_app e5
  have e7 : 0 + 1 + (digN N).length + 1 + 2 + A.length + 1 + 1 ≤ s.size := by
    rw [← nums_length, hs]
    simp only [List.length_cons, List.length_append]
    omega
  clear e5 e6 e7
  exact parse_nick s N A _ _ _ _ w e1 e2 e3 e4 hA hA0 hN h9 hv
theorem parse_badtext (s : ByteArray) (N : Nat) (A T : List Nat) (z : Int) (hs : nums s = 91 :: (digN N ++ (93 :: 32 :: 60 :: (A ++ (62 :: 32 :: T))))) (hA : 62 ∉ A) (hA0 : 0 < A.length) (hN : N ≤ 105190559) (h9 : s.size ≤ 1000000000) (hv : nickB A = true) (hT : chkT T = z) (hz : (z != 0) = true) (w : World) :
    Calls Tryz.prog 27 #[.string s] w fun e w' => e = .returned (.tuple #[.agg #[.int .i64 0, .string ⟨#[]⟩, .string ⟨#[]⟩], .int .i64 ((0 + 1 + (digN N).length + 1 + 2 + A.length + 1 + 1 : Nat) : Int), .int .i64 z]) ∧ Below w.heap.size w w' := by
  have e1 : (nums s).drop 0 = nums ⟨#[91]⟩ ++ (digN N ++ (93 :: 32 :: 60 :: (A ++ (62 :: 32 :: T)))) := by rw [List.drop_zero, hs]; rfl
  have e2 : (nums s).drop (0 + 1) = digN N ++ 93 :: (32 :: 60 :: (A ++ (62 :: 32 :: T))) := drop_app e1
  have e3 : (nums s).drop (0 + 1 + (digN N).length + 1) = nums ⟨#[32, 60]⟩ ++ (A ++ (62 :: 32 :: T)) := drop_app (a := [93]) (drop_app e2)
  have e4 : (nums s).drop (0 + 1 + (digN N).length + 1 + 2) = A ++ 62 :: (32 :: T) := drop_app e3
  have e5 : (nums s).drop (0 + 1 + (digN N).length + 1 + 2 + A.length + 1) = nums ⟨#[32]⟩ ++ T := drop_app (a := [62]) (drop_app e4)
  have e6 : (nums s).drop (0 + 1 + (digN N).length + 1 + 2 + A.length + 1 + 1) = T := drop_app e5
  have e7 : 0 + 1 + (digN N).length + 1 + 2 + A.length + 1 + 1 ≤ s.size := by
    rw [← nums_length, hs]
    simp only [List.length_cons, List.length_append]
    omega
  exact parse_text s N A _ _ _ _ T z w e1 e2 e3 e4 e5 e6 e7 hA hA0 hN h9 hv hT hz
end Go.Proofs.YtlidpdjainmaiaaGreatDoor
