/- Seat n: slices.Delete of one candidate: the walk. -/
import Derived.Test.YtpjphjokhccdaaaGreatNjm
namespace Go.Proofs.YtpjphjokhccdaaaGreat
open Go Go.RowKit Go.Bul Go.Thg Go.Lin Go.Maps
theorem size_cand : (Tryz.prog.info? 113).map (·.size) = some 42 := by kernel_rfl
theorem zero_candV (w : World) : (zeroValue 113).run Tryz.prog w = .ok (.agg (stC 0 cz)) w := by kernel_rfl
theorem slice3_any (g off n c i : Nat) (h1 : i < n) (h2 : n ≤ c) : ∃ v, ∀ w, (Instr.sliceAt 106 (.slice (some ⟨g, off, none⟩) n c) (some (.int .i64 (i : Nat))) (some (.int .i64 ((i : Nat) + 1))) (some (.int .i64 (n : Nat)))).run Tryz.prog w = .ok v w := by
  have q1 : (0 : Int) ≤ (i : Int) := by omega
  have q2 : (i : Int) + 1 ≤ (n : Int) := by omega
  have q3 : (n : Int) ≤ (c : Int) := by omega
  have q4 : (i : Int) ≤ (i : Int) + 1 := by omega
  have q5 : (0 : Int) ≤ (i : Int) + 1 := by omega
  have q6 : (0 : Int) ≤ (n : Int) := by omega
  have q7 : ¬ n = i := by omega
  have q8 : ((i : Int) + 1).toNat = i + 1 := by omega
  refine ⟨.slice (some ⟨g, off + i * 42, none⟩) 1 (n - i), fun w => ?_⟩
  have hz := Go.Bul.run_sizeOf size_cand w
  simp [Instr.sliceAt, Instr.slice, Instr.sliceBounds, Instr.sliceBound, asIntOf, run_underlying Tryz.underlying106, Sem.run_bind, hz, q1, q2, q3, q4, q5, q6, q7, q8, addr_at]
  all_goals (try (intro h; omega))
theorem sliceL_any (g off n c : Nat) (h1 : 0 < n) (h2 : n ≤ c) (w : World) : (Instr.sliceAt 106 (.slice (some ⟨g, off, none⟩) (n - 1) c) (some (.int .i64 ((n - 1 : Nat) : Int))) (some (.int .i64 (n : Nat))) none).run Tryz.prog w = .ok (.slice (some ⟨g, off + (n - 1) * 42, none⟩) 1 (c - (n - 1))) w := by
  have q1 : (0 : Int) ≤ ((n - 1 : Nat) : Int) := by omega
  have q2 : ((n - 1 : Nat) : Int) ≤ (n : Int) := by omega
  have q3 : (n : Int) ≤ (c : Int) := by omega
  have q6 : (0 : Int) ≤ (n : Int) := by omega
  have q7 : ¬ c = n - 1 := by omega
  have q8 : n - (n - 1) = 1 := by omega
  have hz := Go.Bul.run_sizeOf size_cand w
  simp [Instr.sliceAt, Instr.slice, Instr.sliceBounds, Instr.sliceBound, asIntOf, run_underlying Tryz.underlying106, Sem.run_bind, hz, q1, q6, q7, q8, addr_at]
  intro h
  omega
section
variable {w w0 : World} {G : List Nat} {L : List Ent} {R : List Thing} {F : Thing → List Thing} {ops : Array Oper} {rest : List Oper} {o : Oper} {a : Act} {Q : Exit → Act → World → Prop} {x s : Operand} {g off n c i : Nat} {cl : List El}
theorem del_app {k : Nat} (hM : Mem G w0 L R w) (hi : i < n) (hU : UpdR (elT 113 10 (.slice (some ⟨g, off, none⟩) n c) cl) R F) (hk0 : k = n - (i + 1))
    (h : ∀ w', Mem G w0 L (F (elT 113 10 (.slice (some ⟨g, off, none⟩) (n - 1) c) (cl.eraseIdx i))) w' → wpList Tryz.prog ops Q rest (a.put o.dst (.slice (some ⟨g, off, none⟩) (n - 1) c)) w')
    (hgd : o.guard = none := by rfl) (ho : o.op = .call { callee := .builtin .append, args := #[s, x], argTypes := #[106, 106] } := by rfl) (hv : a.eval s = .slice (some ⟨g, off, none⟩) i c := by rfl) (hx : a.eval x = .slice (advA (some ⟨g, off, none⟩) (i + 1) c 42) k (c - (i + 1)) := by rfl) : wpList Tryz.prog ops Q (o :: rest) a w := by
  subst hk0
  have hP := hM.thing _ (mem_of_updR hU)
  obtain ⟨hn, hnc⟩ := elT_len hP
  obtain ⟨hO, hUn⟩ := hP
  rw [← hn] at hO
  have hA := hO.adv (i + 1) (by omega)
  have hd : (stR cl).drop ((i + 1) * 42) = stR (cl.drop (i + 1)) := by
    have e : cl = cl.take (i + 1) ++ cl.drop (i + 1) := (List.take_append_drop _ _).symm
    have hl : (stR (cl.take (i + 1))).length = (i + 1) * 42 := by
      rw [stR_length (hUn.sub fun y hy => List.mem_of_mem_take hy), List.length_take, Nat.min_eq_left (by omega)]
    conv => lhs; rw [e, stR_app, ← hl, List.drop_left]
  have hs : Src Tryz.prog 42 106 (.slice (advA (some ⟨g, off, none⟩) (i + 1) c 42) (n - (i + 1)) (c - (i + 1))) (n - (i + 1)) (stR (cl.drop (i + 1))) w := by
    have h1 := hA.1
    rw [hd] at h1
    exact OffRow.src h1 Tryz.underlying106 (stR_ones (hUn.sub fun y hy => List.mem_of_mem_drop hy))
  have hT : OffRow w 113 42 (.slice (some ⟨g, off, none⟩) i c) i (stR (cl.take i)) := by
    obtain ⟨hxl, A, c', he, h2, h3, h4⟩ := hO
    have e1 : some (⟨g, off, none⟩ : Addr) = A := by injection he
    have e2 : c = c' := by injection he
    subst e1 e2
    have hl : (stR (cl.take i)).length = i * 42 := by
      rw [stR_length (hUn.sub fun y hy => List.mem_of_mem_take hy), List.length_take, Nat.min_eq_left (by omega)]
    refine ⟨hl, _, _, rfl, by omega, h3, fun hc => ?_⟩
    obtain ⟨g', off', cur, h5, h6, h7, h8⟩ := h4 hc
    refine ⟨g', off', cur, h5, h6, h7, fun j hj => ?_⟩
    rw [h8 j (by have : i * 42 ≤ n * 42 := Nat.mul_le_mul_right _ (by omega); omega)]
    have e : stR cl = stR (cl.take i) ++ stR (cl.drop i) := by rw [← stR_app, List.take_append_drop]
    rw [e, List.getElem?_append_left (by omega)]
  obtain ⟨w', hrun, hO', hk⟩ := run_append_in (P := Tryz.prog) 106 106 o.type 113 _ 42 128 ely_cand.u ely_cand.i g off i c (stR (cl.take i)) hT (by omega) _ (n - (i + 1)) (stR (cl.drop (i + 1))) hs (by omega)
  have e1 : i + (n - (i + 1)) = n - 1 := by omega
  rw [e1] at hrun hO'
  refine wpList_plain hgd fun K hK => ?_
  unfold Oper.wp execOp
  simp only [ho, resolve, invoke, builtin, Sem.run_bind, Sem.run_pure, Result.andThen_ok, List.map_toArray, List.map_cons, List.map_nil, hv, hx, hrun]
  have hle : (cl.eraseIdx i).length = n - 1 := by rw [List.length_eraseIdx, if_pos (by omega), hn]
  refine hK _ _ (h w' (hM.turn hU ⟨⟨?_, ?_⟩, ?_, ?_⟩))
  · rw [hle, List.eraseIdx_eq_take_drop_succ, stR_app]
    exact hO'
  · exact hUn.sub fun y hy => List.mem_of_mem_eraseIdx hy
  · have e5 : (elT 113 10 (.slice (some ⟨g, off, none⟩) n c) cl).fp = [g] := sFp_pos (by omega)
    rw [e5]
    exact hk
  · intro k hk'
    have e5 : (elT 113 10 (.slice (some ⟨g, off, none⟩) n c) cl).fp = [g] := sFp_pos (by omega)
    have e6 : (elT 113 10 (.slice (some ⟨g, off, none⟩) (n - 1) c) (cl.eraseIdx i)).fp = [g] := sFp_pos (by omega)
    rw [e6] at hk'
    rw [e5]
    exact .inl hk'
theorem del_clr {d m : Nat} (hM : Mem G w0 L R w) (hm : m < c) (hU : UpdR (elT 113 10 (.slice (some ⟨g, off, none⟩) m c) cl) R F)
    (h : ∀ w', Mem G w0 L (F (elT 113 10 (.slice (some ⟨g, off, none⟩) m c) cl)) w' → wpList Tryz.prog ops Q rest (a.put o.dst (.tuple #[])) w')
    (hgd : o.guard = none := by rfl) (ho : o.op = .call { callee := .builtin .clear, args := #[x], argTypes := #[106] } := by rfl) (hx : a.eval x = .slice (some ⟨g, off + m * 42, none⟩) 1 d := by rfl) : wpList Tryz.prog ops Q (o :: rest) a w := by
  have hP := hM.thing _ (mem_of_updR hU)
  obtain ⟨hn, hnc⟩ := elT_len hP
  obtain ⟨hO, hUn⟩ := hP
  rw [← hn] at hO
  obtain ⟨w', hrun, hO', hk⟩ := run_clear_last (P := Tryz.prog) 106 o.type 113 (.agg (stC 0 cz)) 42 ely_cand.u zero_candV (stC_size _ _) (fun u hu => List.all_eq_true.1 (show (Builtin.zeroCells (Value.agg (stC 0 cz)).cells 1).toList.all (fun u => u.oneCell') = true by kernel_rfl) u hu) (by kernel_rfl) g off m c d (stR cl) hO hm
  refine wpList_plain hgd fun K hK => ?_
  unfold Oper.wp execOp
  simp only [ho, resolve, invoke, builtin, Sem.run_bind, Sem.run_pure, Result.andThen_ok, List.map_toArray, List.map_cons, List.map_nil, hx, hrun]
  refine hK _ _ (h w' (hM.turn hU ⟨⟨by rw [← hn]; exact hO', hUn⟩, ?_, fun _ hg => .inl hg⟩))
  have e5 : (elT 113 10 (.slice (some ⟨g, off, none⟩) m c) cl).fp = [g] := sFp_pos (by omega)
  rw [e5]
  exact hk
theorem at_clear {dst : Option Tmp} {type : TypeId} {pos : String} {after : Array Edge} {xs : Array Operand} {ts : Array TypeId} (h : wpList Tryz.prog ops Q (⟨dst, .call { callee := .builtin .clear, args := xs, argTypes := ts }, type, pos, after, none⟩ :: rest) a w) : wpList Tryz.prog ops Q (⟨dst, .call { callee := .builtin .clear, args := xs, argTypes := ts }, type, pos, after, none⟩ :: rest) a w := h
set_option maxRecDepth 20000 in
set_option maxHeartbeats 4000000 in
theorem delete_any (B : Option Addr) (n c i : Nat) (cl : List El) (hi : i < n) (hl : cl.length ≤ 11) (hM : Mem G w0 L R w) (hU : UpdR (elT 113 10 (.slice B n c) cl) R F) :
    Calls Tryz.prog 52 #[.slice B n c, .int .i64 (i : Nat), .int .i64 ((i : Nat) + 1)] w fun e w' => e = .returned (.slice B (n - 1) c) ∧ Mem G w0 L (F (elT 113 10 (.slice B (n - 1) c) (cl.eraseIdx i))) w' := by
  obtain ⟨hn, hnc⟩ := elT_len (hM.thing _ (mem_of_updR hU))
  obtain ⟨g, off, rfl, _⟩ := elT_at (hM.thing _ (mem_of_updR hU)) i (by omega)
  obtain ⟨v3, hs0⟩ := slice3_any g off n c i hi hnc
  have hs1 := fun w => run_slice_hi 106 113 42 Tryz.underlying106 size_cand (some ⟨g, off, none⟩) n c i (by omega) w
  have hA0 : advA (some ⟨g, off, none⟩) 0 c 42 = some ⟨g, off, none⟩ := by
    unfold advA
    rw [if_neg (by omega)]
    simp [addr_at]
  rw [hA0] at hs1
  have hs2 := fun w => run_slice_lo 106 113 42 Tryz.underlying106 size_cand (some ⟨g, off, none⟩) n c (i + 1) (by omega) hnc w
  rw [show ((i + 1 : Nat) : Int) = (i : Int) + 1 by omega] at hs2
  have hs3 := fun w => sliceL_any g off n c (by omega) hnc w
  have q1 : ((i : Int) == (i : Int) + 1) = false := by simp; omega
  have HU := Lib.hid hU
  have HU2 := Lib.hid (fun (r : Thing) => hU.again r)
  have HI := Lib.hid hi
  have HC := Lib.hid (show n - 1 < c by omega)
  clear hn hnc hA0 hi hl hU
  obtain ⟨m, rfl⟩ : ∃ m, n = m + 1 := ⟨n - 1, by have := HI.out; omega⟩
  have em : m + 1 - 1 = m := by omega
  have ec : ((m + 1 : Nat) : Int) = (m : Int) + 1 := by omega
  rw [ec] at hs0 hs3
  rw [em] at hs3 HC ⊢
  clear em ec
  go_enter Tryz.func52, Tryz.ntmps52
  go_upto_region 5 with fail
  refine wp_region_all (by kernel_rfl) ?_
  replace hM := hM.drew
  generalize w.drew = wd at hM ⊢
  refine wpAll_takes [0, 1, 2, 3, 4, 5] (by kernel_rfl) (fun _ _ _ _ _ h => h) (by kernel_rfl) ?_
  simp only [pickOps, List.filterMap_cons, List.filterMap_nil, List.getElem?_cons_zero, List.getElem?_cons_succ]
  repeat ((with_reducible apply wpPure_step); (· rfl); (· (intro w; go_simp; rfl)); intro K hK; go_simp; (with_reducible refine hK _ ?_); clear hK K)
  refine wpPure_nil ?_
  refine wpAll_one 6 rfl (by kernel_rfl) ?_
  refine del_app (k := m - i) hM HI.out HU.out (by omega) ?_
  rw [show m + 1 - 1 = m by omega]
  clear hM
  intro w2 hM
  refine wpList_then ?_
  refine wpAll_takes [7] (by kernel_rfl) (fun _ _ _ _ _ h => h) (by kernel_rfl) ?_
  simp only [pickOps, List.filterMap_cons, List.filterMap_nil, List.getElem?_cons_zero, List.getElem?_cons_succ]
  repeat ((with_reducible apply wpPure_step); (· rfl); (· (intro w; go_simp; rfl)); intro K hK; go_simp; (with_reducible refine hK _ ?_); clear hK K)
  refine wpPure_nil ?_
  refine wpAll_done (by kernel_rfl) ?_
  go_wp2_with ((with_reducible refine at_clear ?_); refine del_clr hM HC.out (HU2.out _) ?_; clear hM; intro w3 hM)
  go_ret
  exact ⟨rfl, hM⟩
end
end Go.Proofs.YtpjphjokhccdaaaGreat
