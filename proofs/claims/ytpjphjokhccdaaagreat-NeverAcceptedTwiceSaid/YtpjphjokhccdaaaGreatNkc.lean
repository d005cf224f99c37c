/- Seat n: the law's own literals; its walk to the loop. -/
import Derived.Test.YtpjphjokhccdaaaGreatNkb
import Derived.Test.YtpjphjokhccdaaaGreatNjp
import Derived.Test.YtpjphjokhccdaaaGreatNic
import Derived.Test.YtpjphjokhccdaaaGreatNgg
namespace Go.Proofs.YtpjphjokhccdaaaGreat
open Go Go.RowKit Go.Bul Go.Thg Go.Lin Go.Maps
theorem run_ruleC (lo hi : Int) (w : World) : (Instr.build 33 #[(0, .string starB), (1, .int .i64 lo), (2, .int .i64 hi)]).run Tryz.prog w = .ok (.agg (ruleC lo hi)) w := by kernel_rfl
theorem run_rules1 (lo hi : Int) (w : World) : (Instr.buildSlice 34 1 #[(0, .agg (ruleC lo hi))]).run Tryz.prog w = .ok (.slice (some ⟨w.heap.size, 0, none⟩) 1 1) (w.alloc (.cells (ruleC lo hi) 33)) := by kernel_rfl
theorem run_id (j : Nat) (w : World) : (Instr.build 38 #[(0, .int .u8 (j : Nat))]).run Tryz.prog w = .ok (.agg (stC j [])) w := by kernel_rfl
abbrev boolC (ac : List Bool) : Array Value := (ac.map Value.bool).toArray
theorem run_mk10 (w : World) : (Instr.makeSlice 42 (.int .i64 10) (.int .i64 10)).run Tryz.prog w = .ok (.slice (some ⟨w.heap.size, 0, none⟩) 10 10) (w.alloc (.cells (boolC (List.replicate 10 false)) 4)) := by kernel_rfl
theorem run_grp (w : World) : (Instr.buildSlice 48 1 #[(0, .string abB)]).run Tryz.prog w = .ok (.slice (some ⟨w.heap.size, 0, none⟩) 1 1) (w.alloc (.cells #[.string abB] 9)) := by kernel_rfl
section
variable {w w0 : World} {G : List Nat} {L : List Ent} {R : List Thing} {ops : Array Oper} {rest : List Oper} {o : Oper} {a : Act} {Q : Exit → Act → World → Prop} {x y : Operand}
theorem nrl1 {lo hi : Int} (hM : Mem G w0 L R w) (h : ∀ g w', Mem G w0 (⟨g, 33, 3, ruleC lo hi⟩ :: L) R w' → wpList Tryz.prog ops Q rest (a.put o.dst (.slice (some ⟨g, 0, none⟩) 1 1)) w') (hgd : o.guard = none := by rfl) (ho : o.op = .buildSlice 34 1 #[(0, x)] := by rfl) (hx : a.eval x = .agg (ruleC lo hi) := by rfl) : wpList Tryz.prog ops Q (o :: rest) a w := by
  refine wpList_plain hgd fun K hK => ?_
  unfold Oper.wp execOp
  simp only [ho, List.map_toArray, List.map_cons, List.map_nil, hx, Sem.run_bind, run_rules1, Result.andThen_ok]
  exact hK _ _ (h _ _ (hM.alloc _ _ rfl))
theorem nmk10 (hM : Mem G w0 L R w) (h : ∀ g w', Mem G w0 (⟨g, 4, 10, boolC (List.replicate 10 false)⟩ :: L) R w' → wpList Tryz.prog ops Q rest (a.put o.dst (.slice (some ⟨g, 0, none⟩) 10 10)) w') (hgd : o.guard = none := by rfl) (ho : o.op = .makeSlice 42 x y := by rfl) (hx : a.eval x = .int .i64 10 := by rfl) (hy : a.eval y = .int .i64 10 := by rfl) : wpList Tryz.prog ops Q (o :: rest) a w := by
  refine wpList_plain hgd fun K hK => ?_
  unfold Oper.wp execOp
  simp only [ho, hx, hy, Sem.run_bind, run_mk10, Result.andThen_ok, Sem.run_pure]
  exact hK _ _ (h _ _ (hM.alloc _ _ rfl))
/-- The groups of an article, written out. -/
theorem ngrp (hM : Mem G w0 L R w) (h : ∀ g w', Mem G w0 L (grpT g :: R) w' → wpList Tryz.prog ops Q rest (a.put o.dst (.slice (some ⟨g, 0, none⟩) 1 1)) w') (hgd : o.guard = none := by rfl) (ho : o.op = .buildSlice 48 1 #[(0, x)] := by rfl) (hx : a.eval x = .string abB := by rfl) : wpList Tryz.prog ops Q (o :: rest) a w := by
  refine wpList_plain hgd fun K hK => ?_
  unfold Oper.wp execOp
  simp only [ho, List.map_toArray, List.map_cons, List.map_nil, hx, Sem.run_bind, run_grp, Result.andThen_ok]
  exact hK _ _ (h _ _ (ent_row (hM.alloc #[.string abB] 9 rfl) (k := 1) (by omega) (by omega) rfl))
end
theorem results_mem_one {P : Program} {w w0 : World} {G : List Nat} {L : List Ent} {R : List Thing} (hM : Mem G w0 L R w) {fn : Func} {p : Tmp} {ty : TypeId} (h : fn.results = #[.cell p ty]) {tmps : Array Value} {g : Nat} (hp : tmps.getD p undef = .pointer (some ⟨g, 0, none⟩)) {t : TypeId} {n : Nat} {cs : Array Value}
    (hL : ⟨g, t, n, cs⟩ ∈ L) (hty : OneTy P ty) {v : Value} (hv : cs[0]? = some v) : (results fn tmps).run P w = .ok v w := by
  have hc : w.cell? ⟨g, 0, none⟩ = some v := ((hM.blk hL).cell 0).trans hv
  have hl := run_one_load (P := P) hty hc
  rw [Array.getD_eq_getD_getElem?] at hp
  simp [results, h, hp, asAddr, hl]
set_option maxRecDepth 20000 in
theorem sallf_any (s : Nat) (w : World) : Calls Tryz.prog 11 #[.pointer (some ⟨s, 0, none⟩)] w fun e w' => ∃ gs, e = .returned (.func (.func 24) #[] #[.pointer (some ⟨gs, 0, none⟩)]) ∧ Mem [] w [⟨gs, 28, 1, #[.pointer (some ⟨s, 0, none⟩)]⟩] [] w' := by
  have hM := Mem.start [] w
  go_enter Tryz.func11, Tryz.ntmps11
  go_wp2_with (first | ((with_reducible refine at_box ?_); refine nlx (v := .pointer (some ⟨s, 0, none⟩)) hM ?_; clear hM; intro gb wb hM) | ((first | with_reducible refine at_load ?_ | ((with_reducible refine at_load_g ?_ ?_); (· rfl))); first | refine nll hM ?_ | refine nlc hM ?_ | refine nlp hM ?_) | ((with_reducible refine at_store ?_); first | (refine nlw hM ?_; clear hM; intro wx hM) | (refine nls hM ?_; clear hM; intro wx hM) | (refine nlt hM ?_; clear hM; intro wx hM)) | ((with_reducible refine at_alloc ?_); refine nlz hM ?_; clear hM; intro gx wx hM) | ((with_reducible refine at_box ?_); first | (refine nlb hM ?_; clear hM; intro gx wx hM) | (refine nlx hM ?_; clear hM; intro gx wx hM)))
  go_ret
  exact ⟨gb, rfl, hM⟩
theorem boolC_get {ac : List Bool} {k : Nat} {b : Bool} (h : ac[k]? = some b) : (boolC ac)[k]? = some (.bool b) := by
  simp [boolC, h]
theorem boolC_set (ac : List Bool) (k : Nat) (b : Bool) : (boolC ac).setIfInBounds k (.bool b) = boolC (ac.set k b) := by
  simp [boolC, List.setIfInBounds_toArray, List.map_set]
theorem boolC_size (ac : List Bool) : (boolC ac).size = ac.length := by simp [boolC]
theorem Mem.loopDrop {w w0 : World} {G : List Nat} {L : List Ent} {R R' : List Thing} {l D : Nat} {o : Obj} (hM : Mem G w0 L (objT l o :: markT D :: R) w) (hp : R'.Perm (markT D :: R)) : Mem G w0 L R' w := (hM.subR (List.sublist_cons_self _ _)).perm hp
theorem run_id0 (w : World) : (Instr.build 38 #[]).run Tryz.prog w = .ok (.agg (stC 0 [])) w := by kernel_rfl
theorem yb_id0 {w : World} {o : Oper} {a : Act} (ho : o.op = .build 38 #[] := by rfl) : (execOp a.eval o).run Tryz.prog w = .ok (.value (.agg (stC 0 []))) w := by
  unfold execOp
  simp only [ho, List.map_toArray, List.map_nil, Sem.run_bind, run_id0, Result.andThen_ok, Sem.run_pure]
set_option maxRecDepth 20000 in
theorem yne_id {w : World} {o : Oper} {a : Act} {x y : Operand} {i j : Nat} {b : Bool} (hb : (!decide (i = j)) = b) (ho : o.op = .binOp .neq 38 x y 38 := by rfl) (hx : a.eval x = .agg (stC i []) := by rfl) (hy : a.eval y = .agg (stC j []) := by rfl) : (execOp a.eval o).run Tryz.prog w = .ok (.value (.bool b)) w := by
  have h : (Op.equal 38 (.agg (stC i [])) (.agg (stC j []))).run Tryz.prog w = .ok (decide (i = j)) w := eq_id i j w
  subst hb
  unfold execOp
  simp only [ho, hx, hy, Sem.run_bind]
  show ((binOp .neq 38 (.agg (stC i [])) (.agg (stC j []))).run Tryz.prog w).andThen _ = _
  unfold binOp
  simp only [Sem.run_bind, h]
  rfl
theorem stC_pre {j : Nat} {tl : List Value} {i : Nat} {u : Value} (h : (stC j [])[i]? = some u) : (stC j tl)[i]? = some u := by
  have hi : i < 32 := by
    have h1 := (Array.getElem?_eq_some_iff.1 h).1
    rw [stC_size] at h1
    exact h1
  simp only [stC, List.getElem?_toArray, List.append_nil] at h ⊢
  rw [List.getElem?_append_left (by rw [id_len]; exact hi)]
  exact h
theorem held_reads {P : Program} {w : World} {o : Oper} {a : Act} {ty : TypeId} {x : Operand} {g off m : Nat} {X : Array Value} (hX : ∀ j u, X[j]? = some u → w.cell? ⟨g, off + j, none⟩ = some u) (hty : RowTy P ty m) (hm : X.size = m) (ho : o.op = .load ty x := by rfl) (hx : a.eval x = .pointer (some ⟨g, off, none⟩) := by rfl) : (execOp a.eval o).run P w = .ok (.value (.agg X)) w := by
  obtain ⟨d, hu, hd, hi⟩ := hty.ex
  have hl : (loadCells ⟨g, off, none⟩ X.toList.length).run P w = .ok X.toList.toArray w :=
    run_loadCells_list (P := P) w ⟨g, off, none⟩ X.toList (fun j u hu => by rw [addr_at]; exact hX j u (by simpa using hu))
  rw [Array.length_toList, hm] at hl
  simp only [Array.toArray_toList] at hl
  have hrun : (loadVar ty ⟨g, off, none⟩).run P w = .ok (.agg X) w := by simp [loadVar, Sem.run_bind, run_isAgg hu hd, Go.Bul.run_sizeOf hi, hl]
  unfold execOp
  simp only [ho, hx, Instr.loadAt, Instr.sureAddr, Sem.run_bind, Sem.run_pure, Result.andThen_ok, hrun]
theorem elT_cell {e : TypeId} {k n c g off : Nat} {l : List El} {w : World} (h : (elT e k (.slice (some ⟨g, off, none⟩) n c) l).P w) {i : Nat} (hi : i < l.length) (m : Nat) (u : Value) (hu : (elC l[i])[m]? = some u) : w.cell? ⟨g, off + i * (32 + k) + m, none⟩ = some u := by
  obtain ⟨g', off', hA, _, hc⟩ := elT_at h i hi
  injection hA with hA
  injection hA with h1 h2
  subst h1 h2
  exact hc i hi m u hu
theorem markL_perm (pre X : List Thing) (D : Nat) (Ds : List Nat) : (pre ++ (X ++ (D :: Ds).map markT)).Perm (markT D :: (pre ++ (X ++ Ds.map markT))) := by
  rw [← List.append_assoc, ← List.append_assoc]
  exact List.perm_middle
theorem mark_perm (A B C : Thing) (X : List Thing) (D : Nat) (Ds : List Nat) : (A :: B :: C :: (X ++ (D :: Ds).map markT)).Perm (markT D :: A :: B :: C :: (X ++ Ds.map markT)) := by
  show ((A :: B :: C :: X) ++ markT D :: Ds.map markT).Perm _
  exact List.perm_middle
theorem grp_perm (A B C : Thing) (X : List Thing) (g : Nat) (GS : List Nat) : (A :: B :: C :: ((g :: GS).map grpT ++ X)).Perm (grpT g :: A :: B :: C :: (GS.map grpT ++ X)) :=
  List.perm_middle (l₁ := [A, B, C])
end Go.Proofs.YtpjphjokhccdaaaGreat
