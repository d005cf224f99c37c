/- Contracts of merkle.climb, of what it returns. -/
import Derived.Test.YtcfojkecmchbdaaDoorMaj
namespace Go.Thg
open Go Go.RowKit Go.Bul
theorem wp_region_allHM {P : Program} {w w0 : World} {G : List Nat} {L : List Ent} {R : List Thing} {Q : Exit → Act → World → Prop} (hM : Mem G w0 L R w) {id : Nat} {a : Act} {l : List Oper} (S : World → Prop) (hm : P.follows .mixedOrders = true)
    (h : ∀ wd, Mem G w0 L R wd → wpAllH P l.toArray Q S (Array.replicate l.toArray.size false) a wd) : (Code.region id l.toArray true).wp P Q a w :=
  wp_region_allH S hm (h _ hM.drew)
/-- Some blocks are what they are. -/
def HeldM (L : List Ent) (w : World) : Prop := ∃ G w0 R, Mem G w0 L R w
theorem HeldM.of {w w0 : World} {G : List Nat} {L : List Ent} {R : List Thing} (h : Mem G w0 L R w) : HeldM L w := ⟨_, _, _, h⟩
theorem results_cell2 {fn : Func} {p q : Tmp} {ty ty2 : TypeId} (h : fn.results = #[.cell p ty, .cell q ty2]) (tmps : Array Value) (P : Program) (w : World) :
    (results fn tmps).run P w =
      ((asAddr (tmps.getD p undef)).run P w).andThen fun a w₁ => ((loadVar ty a).run P w₁).andThen fun v w₂ => ((asAddr (tmps.getD q undef)).run P w₂).andThen fun a2 w₃ => ((loadVar ty2 a2).run P w₃).andThen fun v2 w₄ => .ok (.tuple #[v, v2]) w₄ := by
  simp only [results, h]
  simp [Sem.run_bind, Result.andThen]
theorem results_mem_cell2 {P : Program} {w w0 : World} {G : List Nat} {L : List Ent} {R : List Thing} (hM : Mem G w0 L R w) {fn : Func} {p q : Tmp} {ty ty2 : TypeId} (h : fn.results = #[.cell p ty, .cell q ty2]) {tmps : Array Value} {g g2 : Nat} (hp : tmps.getD p undef = .pointer (some ⟨g, 0, none⟩)) (hq : tmps.getD q undef = .pointer (some ⟨g2, 0, none⟩)) {t t2 : TypeId} {n n2 : Nat} {cs cs2 : Array Value}
    (hL : ⟨g, t, n, cs⟩ ∈ L) (hL2 : ⟨g2, t2, n2, cs2⟩ ∈ L) (hty : RowTy P ty n) (hty2 : RowTy P ty2 n2) : (results fn tmps).run P w = .ok (.tuple #[.agg cs, .agg cs2]) w := by
  obtain ⟨d, hu, hd, hi⟩ := hty.ex
  have hl := run_loadVar_row (P := P) w g t ty cs (0, 0) d (hM.blk hL) hu (by cases d <;> simp_all [isRow]) (by rw [hi, hM.size hL])
  obtain ⟨d2, hu2, hd2, hi2⟩ := hty2.ex
  have hl2 := run_loadVar_row (P := P) w g2 t2 ty2 cs2 (0, 0) d2 (hM.blk hL2) hu2 (by cases d2 <;> simp_all [isRow]) (by rw [hi2, hM.size hL2])
  rw [results_cell2 h, hp, hq]
  simp [asAddr, hl, hl2]
end Go.Thg
namespace Go.Lin
open Go
def bitAt (idx lev : Int) : Bool := decide (idx / 2 ^ lev.toNat % 2 = 1)
def pairN (idx lev : Int) (x s : Nd) : Nd × Nd := if bitAt idx lev then (s, x) else (x, s)
def stepN (idx lev : Int) (x s : Nd) : Nd := joinN (lev + 1) (pairN idx lev x s).1 (pairN idx lev x s).2
theorem bits_and1 : ∀ x : Fin 1024, (bits BinOp.and IntKind.i64 (x.val : Int) 1 == 1) = decide ((x.val : Int) % 2 = 1) := by decide +kernel
theorem bits_bit {idx lev : Int} (h0 : 0 ≤ idx) (h1 : idx < 1024) : (bits BinOp.and IntKind.i64 (idx / 2 ^ lev.toNat) 1 == 1) = bitAt idx lev := by
  have hp : (0 : Int) < 2 ^ lev.toNat := Int.pow_pos (by decide)
  have h2 : 0 ≤ idx / 2 ^ lev.toNat := Int.ediv_nonneg h0 (by omega)
  have h3 : idx / 2 ^ lev.toNat ≤ idx := Int.ediv_le_self _ h0
  have h := bits_and1 ⟨(idx / 2 ^ lev.toNat).toNat, by omega⟩
  simp only [Int.toNat_of_nonneg h2] at h
  exact h
end Go.Lin
namespace Go.Proofs.YtcfojkecmchbdaaDoor
open Go Go.RowKit Go.Bul Go.Thg Go.Lin
theorem run_build2 (x y : Nd) (w : World) : (Instr.build 55 #[(0, .agg (ndC x)), (1, .agg (ndC y))]).run Tryd.prog w = .ok (.agg (ndC2 x y)) w := by
  obtain ⟨d, hu, hd, hi⟩ := row_nd.ex
  obtain ⟨l0, hl0, _⟩ := x
  obtain ⟨l1, hl1, _⟩ := y
  obtain ⟨p0, p1, p2, p3, p4, p5, p6, p7, p8, p9, p10, p11, p12, p13, p14, p15, rfl⟩ := list16 hl0
  obtain ⟨q0, q1, q2, q3, q4, q5, q6, q7, q8, q9, q10, q11, q12, q13, q14, q15, rfl⟩ := list16 hl1
  have h : (Tryd.prog.info? 55).map (·.zero) = some (some (.agg (ndC2 nd0 nd0))) := by kernel_rfl
  cases hq : Tryd.prog.info? 55 with
  | none => rw [hq] at h; simp at h
  | some i =>
    have hz : i.zero = some (.agg (ndC2 nd0 nd0)) := by simpa [hq] using h
    have hf : ∀ (b0 b1 : Bytes _) , Instr.fill (fun i => some (i * 16, 16)) (Value.agg (ndC2 nd0 nd0)).cells [(0, .agg (ndC ⟨[p0, p1, p2, p3, p4, p5, p6, p7, p8, p9, p10, p11, p12, p13, p14, p15], hl0, b0⟩)), (1, .agg (ndC ⟨[q0, q1, q2, q3, q4, q5, q6, q7, q8, q9, q10, q11, q12, q13, q14, q15], hl1, b1⟩))] = some (ndC2 ⟨[p0, p1, p2, p3, p4, p5, p6, p7, p8, p9, p10, p11, p12, p13, p14, p15], hl0, b0⟩ ⟨[q0, q1, q2, q3, q4, q5, q6, q7, q8, q9, q10, q11, q12, q13, q14, q15], hl1, b1⟩) := by
      intro b0 b1
      kernel_rfl
    have zr : ∀ w, (zeroValue 55).run Tryd.prog w = .ok (.agg (ndC2 nd0 nd0)) w := fun w => by simp [zeroValue, typeInfo, hq, hz]
    unfold Instr.build
    simp only [Sem.run_bind, zr, run_underlying Tryd.underlying55, Result.andThen_ok, Go.Bul.run_sizeOf hi, hf, Sem.run_pure]
section
variable {P : Program} {w : World} {ops : Array Oper} {o : Oper} {rest : List Oper} {a : Act} {Q : Exit → Act → World → Prop} {x0 x1 : Operand} {x y : Nd}
theorem wpList_build_run {P : Program} (hgd : o.guard = none) (ty : TypeId) (ps : Array (Nat × Operand)) (ho : o.op = .build ty ps) (parts : Array (Nat × Value)) (hp : (ps.map fun p => (p.1, a.eval p.2)) = parts) (v : Value)
    (hr : (Instr.build ty parts).run P w = .ok v w) (h : wpList P ops Q rest (a.put o.dst v) w) : wpList P ops Q (o :: rest) a w := by
  refine wpList_plain hgd fun K hK => ?_
  subst hp
  unfold Oper.wp execOp
  simp only [ho]
  have hr' : (Instr.build ty (ps.map fun (x : Nat × Operand) => match x with | (i, x) => (i, a.eval x))).run P w = .ok v w := hr
  simp only [Sem.run_bind, hr', Result.andThen_ok, Sem.run_pure]
  exact hK _ _ h
theorem ext_nd0 (x y : Nd) : (ndC2 x y).extract 0 (0 + 16) = ndC x := by
  obtain ⟨l0, hl0, _⟩ := x
  obtain ⟨l1, hl1, _⟩ := y
  simp [ndC2, ndC, cellsOf, vals, hl0]
theorem ext_nd1 (x y : Nd) : (ndC2 x y).extract 16 (16 + 16) = ndC y := by
  obtain ⟨l0, hl0, _⟩ := x
  obtain ⟨l1, hl1, _⟩ := y
  simp [ndC2, ndC, cellsOf, vals, hl0]
  exact List.take_of_length_le (by simp; omega)
theorem lq0 {w0 : World} {G : List Nat} {L : List Ent} {R : List Thing} {t ty : TypeId} {g : Nat} {xo : Operand} (hM : Mem G w0 L R w) (h : wpList Tryd.prog ops Q rest (a.put o.dst (.agg (ndC x))) w) (hgd : o.guard = none := by rfl) (ho : o.op = .load ty xo := by rfl) (hx : a.eval xo = .pointer (some ⟨g, 0, none⟩) := by rfl) (hL : ⟨g, t, 32, ndC2 x y⟩ ∈ L := by repeat (first | exact List.Mem.head _ | apply List.Mem.tail)) (hty : RowTy Tryd.prog ty 16 := by first | exact row_nd | exact row_n | exact row_half | exact row_a32 | exact row_nd2 | exact row_n2 | exact row_two | exact row_claim | exact row_bld | exact row_bnds) : wpList Tryd.prog ops Q (o :: rest) a w :=
  lp hM h (cs := ndC2 x y) hgd ho hx hL hty (by omega) (ext_nd0 x y)
theorem lq1 {w0 : World} {G : List Nat} {L : List Ent} {R : List Thing} {t ty : TypeId} {g : Nat} {xo : Operand} (hM : Mem G w0 L R w) (h : wpList Tryd.prog ops Q rest (a.put o.dst (.agg (ndC y))) w) (hgd : o.guard = none := by rfl) (ho : o.op = .load ty xo := by rfl) (hx : a.eval xo = .pointer (some ⟨g, 16, none⟩) := by rfl) (hL : ⟨g, t, 32, ndC2 x y⟩ ∈ L := by repeat (first | exact List.Mem.head _ | apply List.Mem.tail)) (hty : RowTy Tryd.prog ty 16 := by first | exact row_nd | exact row_n | exact row_half | exact row_a32 | exact row_nd2 | exact row_n2 | exact row_two | exact row_claim | exact row_bld | exact row_bnds) : wpList Tryd.prog ops Q (o :: rest) a w :=
  lp hM h (cs := ndC2 x y) hgd ho hx hL hty (by omega) (ext_nd1 x y)
theorem lbu2 (h : wpList Tryd.prog ops Q rest (a.put o.dst (.agg (ndC2 x y))) w) (hgd : o.guard = none := by rfl) (ho : o.op = .build 55 #[(0, x0), (1, x1)] := by rfl) (hx : a.eval x0 = .agg (ndC x) := by rfl) (hy : a.eval x1 = .agg (ndC y) := by rfl) : wpList Tryd.prog ops Q (o :: rest) a w :=
  wpList_build_run hgd _ _ ho _ (by simp only [List.map_toArray, List.map_cons, List.map_nil, hx, hy]) _ (run_build2 x y w) h
end
set_option maxRecDepth 20000 in
set_option maxHeartbeats 4000000 in
theorem climb_step {G : List Nat} {w0 w : World} {L : List Ent} {R : List Thing} {g5 g3 g6 : Nat} {x s : Nd} {idx lev : Int} (hM : Mem G w0 (⟨g5, 27, 16, ndC x⟩ :: ⟨g3, 3, 1, #[.int .i64 idx]⟩ :: ⟨g6, 3, 1, #[.int .i64 lev]⟩ :: L) R w) (hT : ∀ L R w', Mem G w0 L R w' → Tab w') (h0 : 0 ≤ idx) (h1 : idx < 1024) (h2 : 0 ≤ lev) (h3 : lev ≤ 10) :
    Calls Tryd.prog 51 #[.agg (ndC s), .pointer (some ⟨g5, 0, none⟩), .pointer (some ⟨g3, 0, none⟩), .pointer (some ⟨g6, 0, none⟩)] w fun e w' => e = .returned (.tuple #[.agg (ndC2 (pairN idx lev x s).1 (pairN idx lev x s).2), .agg (ndC (stepN idx lev x s))]) ∧ Mem G w0 (⟨g5, 27, 16, ndC (stepN idx lev x s)⟩ :: ⟨g3, 3, 1, #[.int .i64 idx]⟩ :: ⟨g6, 3, 1, #[.int .i64 (lev + 1)]⟩ :: L) R w' := by
  have HT := Lib.hid hT
  have hb := bits_bit (lev := lev) h0 h1
  have w1 : IntKind.i64.wrap (lev + 1) = lev + 1 := IntWalk.i64_in _ ⟨by omega, by omega⟩
  clear hT
  unfold stepN pairN
  cases hbit : bitAt idx lev with
  | true =>
    rw [hbit] at hb
    simp only [if_true]
    obtain ⟨Z, hZ⟩ : ∃ Z, joinN (lev + 1) s x = Z := ⟨_, rfl⟩
    obtain ⟨PP, hP⟩ : ∃ P, P = s := ⟨_, rfl⟩
    obtain ⟨QQ, hQ⟩ : ∃ P, P = x := ⟨_, rfl⟩
    rw [hZ]
    have HJ := Lib.hid (fun w' (h : Tab w') => join_any (lev + 1) s x w' h)
    rw [hZ] at HJ
    subst hP hQ
    clear hbit h0 h1 hZ
    go_enter Tryd.func51, Tryd.ntmps51
    go_upto_region 6 with (first | ((with_reducible refine at_load ?_); refine ll hM ?_; go_simp; (with_reducible refine at_build ?_); refine lbu2 ?_; go_simp) | ((with_reducible refine at_load ?_); first | refine ll hM ?_ | refine lc hM ?_ | refine lq0 hM ?_ | refine lq1 hM ?_) | ((with_reducible refine at_store ?_); refine ls hM ?_ (v := .int .i64 (lev + 1)); clear hM; intro wx hM) | ((with_reducible refine (HJ.out _ (HT.out _ _ _ hM)).mono ?_); rintro e w1 ⟨rfl, hb⟩; replace hM := hM.step hb; clear hb) | ((first | with_reducible refine at_load ?_ | ((with_reducible refine at_load_g ?_ ?_); (· rfl))); first | refine ll hM ?_ | refine lc hM ?_ | refine lp hM ?_) | ((with_reducible refine at_store ?_); first | (refine lw hM ?_; clear hM; intro wx hM) | (refine ls hM ?_; clear hM; intro wx hM) | (refine lt hM ?_; clear hM; intro wx hM)) | ((with_reducible refine at_alloc ?_); refine lz hM ?_; clear hM; intro gx wx hM) | ((with_reducible refine at_box ?_); refine lb hM ?_; clear hM; intro gx wx hM))
    obtain ⟨gp, hgp⟩ := hM.name1
    subst hgp
    refine wp_region_allHM hM (HeldM [⟨gp, 55, 32, ndC2 PP QQ⟩, ⟨g5, 27, 16, ndC Z⟩]) (by kernel_rfl) ?_
    clear hM
    intro wd hM
    have hS := HeldM.of (hM.subL (List.Sublist.cons_cons _ (List.Sublist.cons _ (List.Sublist.cons _ (List.Sublist.cons _ (List.Sublist.cons_cons _ (List.nil_sublist _)))))))
    refine wpAllH_takes [0, 1] (by kernel_rfl) (fun _ _ _ _ _ h => h) hS (by kernel_rfl) ?_
    simp only [pickOps, List.filterMap_cons, List.filterMap_nil, List.getElem?_cons_zero, List.getElem?_cons_succ]
    repeat ((with_reducible apply wpHeld_step); (· rfl); (· (intro w hSw; first | (go_simp; rfl) | ((obtain ⟨_, _, _, hM'⟩ := hSw; exact yields_load (C := fun _ => True) (ql hM') rfl)))); intro K hK; go_simp; (with_reducible refine hK _ ?_); clear hK K)
    refine wpHeld_nil ?_
    refine wpAllH_one 2 rfl (by kernel_rfl) ?_
    refine lw hM ?_
    clear hM hS
    intro wx hM
    have hS := HeldM.of (hM.subL (List.Sublist.cons_cons _ (List.Sublist.cons _ (List.Sublist.cons _ (List.Sublist.cons _ (List.Sublist.cons_cons _ (List.nil_sublist _)))))))
    refine wpList_then ⟨hS, ?_⟩
    refine wpAllH_one 3 rfl (by kernel_rfl) ?_
    refine lw hM ?_
    clear hM hS
    intro wy hM
    have hS := HeldM.of (hM.subL (List.Sublist.cons_cons _ (List.Sublist.cons _ (List.Sublist.cons _ (List.Sublist.cons _ (List.Sublist.cons_cons _ (List.nil_sublist _)))))))
    refine wpList_then ⟨hS, ?_⟩
    refine wpAllH_done (by kernel_rfl) ?_
    go_wp2_with fail
    exact bodyPost_ret (results_mem_cell2 hM rfl (by rfl) (by rfl) (by repeat (first | exact List.Mem.head _ | apply List.Mem.tail)) (by repeat (first | exact List.Mem.head _ | apply List.Mem.tail)) (by first | exact row_nd | exact row_n | exact row_half | exact row_a32 | exact row_nd2 | exact row_n2 | exact row_two | exact row_claim | exact row_bld | exact row_bnds) (by first | exact row_nd | exact row_n | exact row_half | exact row_a32 | exact row_nd2 | exact row_n2 | exact row_two | exact row_claim | exact row_bld | exact row_bnds)) rfl ⟨rfl, hM.subL (List.Sublist.cons _ (List.Sublist.cons _ (List.Sublist.cons _ (List.Sublist.cons _ (List.Sublist.refl _)))))⟩
  | false =>
    rw [hbit] at hb
    simp only [Bool.false_eq_true, if_false]
    obtain ⟨Z, hZ⟩ : ∃ Z, joinN (lev + 1) x s = Z := ⟨_, rfl⟩
    obtain ⟨PP, hP⟩ : ∃ P, P = x := ⟨_, rfl⟩
    obtain ⟨QQ, hQ⟩ : ∃ P, P = s := ⟨_, rfl⟩
    rw [hZ]
    have HJ := Lib.hid (fun w' (h : Tab w') => join_any (lev + 1) x s w' h)
    rw [hZ] at HJ
    subst hP hQ
    clear hbit h0 h1 hZ
    go_enter Tryd.func51, Tryd.ntmps51
    go_upto_region 6 with (first | ((with_reducible refine at_load ?_); refine ll hM ?_; go_simp; (with_reducible refine at_build ?_); refine lbu2 ?_; go_simp) | ((with_reducible refine at_load ?_); first | refine ll hM ?_ | refine lc hM ?_ | refine lq0 hM ?_ | refine lq1 hM ?_) | ((with_reducible refine at_store ?_); refine ls hM ?_ (v := .int .i64 (lev + 1)); clear hM; intro wx hM) | ((with_reducible refine (HJ.out _ (HT.out _ _ _ hM)).mono ?_); rintro e w1 ⟨rfl, hb⟩; replace hM := hM.step hb; clear hb) | ((first | with_reducible refine at_load ?_ | ((with_reducible refine at_load_g ?_ ?_); (· rfl))); first | refine ll hM ?_ | refine lc hM ?_ | refine lp hM ?_) | ((with_reducible refine at_store ?_); first | (refine lw hM ?_; clear hM; intro wx hM) | (refine ls hM ?_; clear hM; intro wx hM) | (refine lt hM ?_; clear hM; intro wx hM)) | ((with_reducible refine at_alloc ?_); refine lz hM ?_; clear hM; intro gx wx hM) | ((with_reducible refine at_box ?_); refine lb hM ?_; clear hM; intro gx wx hM))
    obtain ⟨gp, hgp⟩ := hM.name1
    subst hgp
    refine wp_region_allHM hM (HeldM [⟨gp, 55, 32, ndC2 PP QQ⟩, ⟨g5, 27, 16, ndC Z⟩]) (by kernel_rfl) ?_
    clear hM
    intro wd hM
    have hS := HeldM.of (hM.subL (List.Sublist.cons_cons _ (List.Sublist.cons _ (List.Sublist.cons _ (List.Sublist.cons _ (List.Sublist.cons_cons _ (List.nil_sublist _)))))))
    refine wpAllH_takes [0, 1] (by kernel_rfl) (fun _ _ _ _ _ h => h) hS (by kernel_rfl) ?_
    simp only [pickOps, List.filterMap_cons, List.filterMap_nil, List.getElem?_cons_zero, List.getElem?_cons_succ]
    repeat ((with_reducible apply wpHeld_step); (· rfl); (· (intro w hSw; first | (go_simp; rfl) | ((obtain ⟨_, _, _, hM'⟩ := hSw; exact yields_load (C := fun _ => True) (ql hM') rfl)))); intro K hK; go_simp; (with_reducible refine hK _ ?_); clear hK K)
    refine wpHeld_nil ?_
    refine wpAllH_one 2 rfl (by kernel_rfl) ?_
    refine lw hM ?_
    clear hM hS
    intro wx hM
    have hS := HeldM.of (hM.subL (List.Sublist.cons_cons _ (List.Sublist.cons _ (List.Sublist.cons _ (List.Sublist.cons _ (List.Sublist.cons_cons _ (List.nil_sublist _)))))))
    refine wpList_then ⟨hS, ?_⟩
    refine wpAllH_one 3 rfl (by kernel_rfl) ?_
    refine lw hM ?_
    clear hM hS
    intro wy hM
    have hS := HeldM.of (hM.subL (List.Sublist.cons_cons _ (List.Sublist.cons _ (List.Sublist.cons _ (List.Sublist.cons _ (List.Sublist.cons_cons _ (List.nil_sublist _)))))))
    refine wpList_then ⟨hS, ?_⟩
    refine wpAllH_done (by kernel_rfl) ?_
    go_wp2_with fail
    exact bodyPost_ret (results_mem_cell2 hM rfl (by rfl) (by rfl) (by repeat (first | exact List.Mem.head _ | apply List.Mem.tail)) (by repeat (first | exact List.Mem.head _ | apply List.Mem.tail)) (by first | exact row_nd | exact row_n | exact row_half | exact row_a32 | exact row_nd2 | exact row_n2 | exact row_two | exact row_claim | exact row_bld | exact row_bnds) (by first | exact row_nd | exact row_n | exact row_half | exact row_a32 | exact row_nd2 | exact row_n2 | exact row_two | exact row_claim | exact row_bld | exact row_bnds)) rfl ⟨rfl, hM.subL (List.Sublist.cons _ (List.Sublist.cons _ (List.Sublist.cons _ (List.Sublist.cons _ (List.Sublist.refl _)))))⟩
end Go.Proofs.YtcfojkecmchbdaaDoor
