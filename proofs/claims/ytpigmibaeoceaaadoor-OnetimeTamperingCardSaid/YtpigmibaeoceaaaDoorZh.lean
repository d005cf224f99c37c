/- Regions whose order is drawn, by an invariant: what each operation that has been listed has left. 'x, y := f(a), f(b)' where the results are arrays: two loads, two calls, two new variables, two stores, in whatever order comes up. The heap predicate in the steps of a region that draws its order: stores, appends, blocks laid anew. -/
import Derived.Test.YtpigmibaeoceaaaDoorZb
import Derived.Test.YtpigmibaeoceaaaDoorHeap
import Derived.Deep.RegionLaw
namespace Go.Bul
open Go
theorem count_set : ∀ (l : List Bool) (i : Nat), l.getD i true = false → (l.set i true).countP (fun b => !b) + 1 = l.countP (fun b => !b)
  | [], i, h => by simp at h
  | b :: l, 0, h => by
    simp at h
    subst h
    simp
  | b :: l, i + 1, h => by
    have := count_set l i (by simpa using h)
    cases b <;> simp only [List.set_cons_succ, List.countP_cons] at this ⊢ <;> simp at this ⊢ <;> omega
section
variable {P : Program} {ops : Array Oper} {md : Region.Mode} {Q : Exit → Act → World → Prop}
theorem any_inv (Inv : Array Bool → Act → World → Prop)
    (hstep : ∀ listed a w i, Inv listed a w → i ∈ Region.ready md ops listed → ∀ K : Act → World → Prop, (∀ a' w', Inv (listed.setIfInBounds i true) a' w' → K a' w') → wpOp P ops Q i K a w)
    (hend : ∀ listed a w, Inv listed a w → Region.ready md ops listed = [] → Q .normal a w) :
    ∀ (fuel : Nat) (listed : Array Bool) (a : Act) (w : World), listed.toList.countP (fun b => !b) ≤ fuel → Inv listed a w → wpAny P md ops Q fuel listed a w
  | 0, listed, a, w, hc, h => by
    have hr : Region.ready md ops listed = [] := by
      cases hq : Region.ready md ops listed with
      | nil => rfl
      | cons i r =>
        have hi : i ∈ Region.ready md ops listed := by rw [hq]; simp
        have h1 := (mem_ready.1 hi).1
        have := count_set listed.toList i (by simpa [List.getD, Array.getD_eq_getD_getElem?] using h1)
        omega
    exact ⟨hr, hend _ _ _ h hr⟩
  | f + 1, listed, a, w, hc, h => ⟨hend _ _ _ h, fun i hi => hstep listed a w i h hi _ fun a' w' h' => any_inv Inv hstep hend f _ a' w' (by
      have h1 := (mem_ready.1 hi).1
      have := count_set listed.toList i (by simpa [List.getD, Array.getD_eq_getD_getElem?] using h1)
      simp only [Array.toList_setIfInBounds]
      omega) h'⟩
theorem wp_region_inv {id : Nat} {a : Act} {w : World} (hm : P.follows .mixedOrders = true) (Inv : Array Bool → Act → World → Prop)
    (h0 : Inv (Array.replicate ops.size false) a { w with drawn := w.drawn + 1 })
    (hstep : ∀ listed a w i, Inv listed a w → i ∈ Region.ready .any ops listed → ∀ K : Act → World → Prop, (∀ a' w', Inv (listed.setIfInBounds i true) a' w' → K a' w') → wpOp P ops Q i K a w)
    (hend : ∀ listed a w, Inv listed a w → Region.ready .any ops listed = [] → Q .normal a w) : (Code.region id ops true).wp P Q a w :=
  wp_region_any hm (any_inv Inv hstep hend _ _ _ _ (by simp [List.countP_replicate]) h0)
end
end Go.Bul
namespace Go.Bul
open Go Go.RowKit
/-- Where each operation waits only for earlier ones, a region ends when all are done. -/
theorem ready_done {ops : Array Oper} {listed : Array Bool} (hord : (List.range ops.size).all (fun i => ((ops[i]?).map fun o => o.after.all fun e => !Region.binds .any e || decide (e.on < i)).getD false) = true)
    (hs : listed.size = ops.size) (hr : Region.ready .any ops listed = []) : ∀ i, i < ops.size → listed.getD i false = true := by
  intro i
  induction i using Nat.strongRecOn with
  | _ i ih =>
    intro hi
    cases h : listed.getD i false with
    | true => rfl
    | false =>
      have h0 : listed.getD i true = false := by
        have hl : i < listed.size := by omega
        simp only [Array.getD, hl, dite_true] at h ⊢
        exact h
      have hm : i ∈ Region.ready .any ops listed := by
        rw [mem_ready]
        refine ⟨h0, ops[i], by simp [hi], fun e he hb => ?_⟩
        have := List.all_eq_true.1 hord i (List.mem_range.2 hi)
        simp only [hi, getElem?_pos, Option.map_some, Option.getD_some] at this
        have h2 := Array.all_eq_true'.1 this e he
        simp only [hb, Bool.not_true, Bool.false_or, decide_eq_true_eq] at h2
        have h3 := ih e.on h2 (by omega)
        simpa using h3
      rw [hr] at hm
      cases hm
/-- An operation that comes up has what it waits for. -/
theorem ready_after {ops : Array Oper} {listed : Array Bool} {i j : Nat} {o : Oper} (ho : ops[i]? = some o) (hd : (o.after.any fun e => Region.binds .any e && e.on == j) = true) (hr : i ∈ Region.ready .any ops listed) : listed.getD j false = true := by
  obtain ⟨_, o', ho', h⟩ := mem_ready.1 hr
  rw [ho] at ho'
  obtain rfl := Option.some.inj ho'
  obtain ⟨e, he, hb⟩ := Array.any_eq_true'.1 hd
  simp only [Bool.and_eq_true, beq_iff_eq] at hb
  have := h e he hb.1
  rw [hb.2] at this
  simpa using this
theorem getD_put_true {l : Array Bool} {i : Nat} (hi : i < l.size) (j : Nat) : ((l.setIfInBounds i true).getD j false = true) ↔ (j = i ∨ l.getD j false = true) := by
  simp only [Array.getD_eq_getD_getElem?, Array.getElem?_setIfInBounds]
  by_cases h : i = j
  · subst h; simp [hi]
  · simp [h, Ne.symm h]
theorem getD_put_ne {l : Array Bool} {i j : Nat} (h : i ≠ j) : (l.setIfInBounds i true).getD j false = l.getD j false := by
  simp only [Array.getD_eq_getD_getElem?, Array.getElem?_setIfInBounds, h, if_false]
theorem getD_put_same {l : Array Bool} {i : Nat} (hi : i < l.size) : (l.setIfInBounds i true).getD i false = true := (getD_put_true hi i).2 (.inl rfl)
theorem put_defers (a : Act) (d : Option Tmp) (v : Value) : (a.put d v).defers = a.defers := by cases d <;> rfl
theorem act_ext {a b : Act} (h1 : a.tmps = b.tmps) (h2 : a.defers = b.defers) : a = b := by
  cases a
  cases b
  simp only at h1 h2
  subst h1 h2
  rfl
theorem put_get {a : Act} {s : Nat} {v : Value} (hs : s < a.tmps.size) (t : Nat) : (a.put (some s) v).tmps[t]? = if s = t then some v else a.tmps[t]? := by
  simp only [Act.put, Array.getElem?_setIfInBounds]
  by_cases h : s = t
  · subst h; simp [hs]
  · simp [h]
theorem eval_of_get {a : Act} {s : Nat} {v : Value} (h : a.tmps[s]? = some v) : a.eval (.tmp s) = v := by simp [Act.eval, Array.getD_eq_getD_getElem?, h]
section
variable {P : Program} {ops : Array Oper} {Q : Exit → Act → World → Prop} {G : List Nat} {w0 : World} {L : List Ent} {R : List OwnR}
/-- The state between: what has been done has left its mark. -/
structure Two (G : List Nat) (w0 : World) (L : List Ent) (R : List OwnR) (a : Act) (sA rA sB rB pX pY : Nat) (vA vB : Value) (uA uB Z : Array Value) (U : TypeId) (m : Nat) (listed : Array Bool) (a' : Act) (w' : World) : Prop where
  size : listed.size = 8
  defers : a'.defers = a.defers
  tmps : a'.tmps.size = a.tmps.size
  far : ∀ s, s ≠ sA → s ≠ rA → s ≠ sB → s ≠ rB → s ≠ pX → s ≠ pY → a'.tmps[s]? = a.tmps[s]?
  h0 : listed.getD 0 false = true → a'.tmps[sA]? = some vA
  h1 : listed.getD 1 false = true → a'.tmps[rA]? = some (.agg uA)
  h2 : listed.getD 2 false = true → a'.tmps[sB]? = some vB
  h3 : listed.getD 3 false = true → a'.tmps[rB]? = some (.agg uB)
  st4 : listed.getD 4 false = false → listed.getD 6 false = false
  st5 : listed.getD 5 false = false → listed.getD 7 false = false
  mem : ∃ gX gY, (listed.getD 4 false = true → a'.tmps[pX]? = some (.pointer (some ⟨gX, 0, none⟩))) ∧ (listed.getD 5 false = true → a'.tmps[pY]? = some (.pointer (some ⟨gY, 0, none⟩))) ∧
    Mem G w0 ((if listed.getD 4 false = true then [⟨gX, U, m, if listed.getD 6 false = true then uA else Z⟩] else []) ++ ((if listed.getD 5 false = true then [⟨gY, U, m, if listed.getD 7 false = true then uB else Z⟩] else []) ++ L)) R w'
theorem wanted_plain {o : Oper} {a' : Act} (hg : o.guard = none) : Region.wanted o (yielded ops a'.tmps) = true := by simp [Region.wanted, hg]
theorem wpOp_plain {i : Nat} {o : Oper} {a' : Act} {w' : World} {K : Act → World → Prop} (ho : ops[i]? = some o) (hg : o.guard = none) (h : o.wp P a' w' K Q) : wpOp P ops Q i K a' w' := by
  unfold wpOp
  rw [ho]
  simp only [wanted_plain hg, if_true]
  exact .inl h
theorem owp_load {o : Oper} {a' : Act} {w' : World} {K : Act → World → Prop} (hM : Mem G w0 L R w') {ty : TypeId} {x : Operand} (ho : o.op = .load ty x) {g : Nat} (hx : a'.eval x = .pointer (some ⟨g, 0, none⟩)) {t : TypeId} {n : Nat} {cs : Array Value} (hL : ⟨g, t, n, cs⟩ ∈ L) (hty : RowTy P ty n)
    (h : K (a'.put o.dst (.agg cs)) w') : o.wp P a' w' K Q := by
  obtain ⟨d, hu, hd, hi⟩ := hty.ex
  have hs := hM.size hL
  unfold Oper.wp execOp
  simp only [ho, hx, Instr.loadAt, Instr.sureAddr, Sem.run_bind, Sem.run_pure, Result.andThen_ok, run_load_part w' g 0 t ty cs n d (hM.blk hL) hu hd hi (by omega)]
  have e : cs.extract 0 (0 + n) = cs := by simp [← hs]
  rw [e]
  exact h
theorem owp_call {o : Oper} {a' : Act} {w' : World} {K : Act → World → Prop} {f : FuncId} {x : Operand} {ts : Array TypeId} (hf : ∀ args w, (callFunc f args).run P w = .ok (.enter f args) w) (ho : o.op = .call { callee := .value (.func f), args := #[x], argTypes := ts }) {v u : Value} (hx : a'.eval x = v)
    (hc : Calls P f #[v] w' fun e w'' => e = .returned u ∧ Below w'.heap.size w' w'') (h : ∀ w'', Below w'.heap.size w' w'' → K (a'.put o.dst u) w'') : o.wp P a' w' K Q := by
  have hr : (execOp a'.eval o).run P w' = .ok (.enter f #[v]) w' := by
    unfold execOp
    have e : a'.eval (.func f) = .func (.func f) #[] #[] := rfl
    simp only [ho, resolve, e, Deferred.ofValue, Sem.run_bind, Sem.run_pure, Result.andThen_ok, List.map_toArray, List.map_cons, List.map_nil, hx, invoke, Array.append_empty, Array.empty_append, hf]
  unfold Oper.wp
  rw [hr]
  refine hc.mono ?_
  rintro e w'' ⟨rfl, hb⟩
  exact h w'' hb
theorem owp_zero {o : Oper} {a' : Act} {w' : World} {K : Act → World → Prop} {ty : TypeId} (ho : o.op = .alloc ty) {n : Nat} {cs : Array Value} (hz : ZeroTy P ty n cs) (h : K (a'.put o.dst (.pointer (some ⟨w'.heap.size, 0, none⟩))) (w'.alloc (.cells cs ty))) : o.wp P a' w' K Q := by
  obtain ⟨z, hzz, rfl, _⟩ := hz.ex
  cases hq : P.info? ty with
  | none => simp [hq] at hzz
  | some i =>
    have hz' : i.zero = some z := by simpa [hq] using hzz
    unfold Oper.wp execOp
    simp only [ho, Instr.alloc, zeroValue, typeInfo, newVar, newRow, newObj, Sem.run_bind, Sem.run_pure, Result.andThen_ok, run_program, hq, hz']
    exact h
theorem owp_store {o : Oper} {a' : Act} {w' : World} {K : Act → World → Prop} (hM : Mem G w0 L R w') {ty : TypeId} {x y : Operand} (ho : o.op = .store ty x y) {g : Nat} (hx : a'.eval x = .pointer (some ⟨g, 0, none⟩)) {vs : Array Value} (hy : a'.eval y = .agg vs) {t : TypeId} {n : Nat} {cs : Array Value}
    {F : Array Value → List Ent} (hL : UpdL g t n cs L F) (hty : RowTy P ty n) (hv : vs.size = n) (h1 : ∀ v ∈ vs.toList, v.oneCell' = true) (hdst : o.dst = none) (h : ∀ w'', Mem G w0 (F vs) R w'' → K a' w'') : o.wp P a' w' K Q := by
  obtain ⟨d, hu, hd, hi⟩ := hty.ex
  have hin : (⟨g, t, n, cs⟩ : Ent) ∈ L := by obtain ⟨A, B, rfl, _⟩ := hL; simp
  have hb := hM.blk hin
  have hs := hM.size hin
  simp only at hb hs
  have hst := run_storeCells_at P g 0 t vs.toList 0 cs w' hb (by simp; omega) h1
  unfold Oper.wp execOp
  simp only [ho, hx, hy, Instr.storeAt, Instr.sureAddr, storeVar, Value.cells, Sem.run_bind, Sem.run_pure, Result.andThen_ok, run_sizeOf hi, hv, ne_eq, not_true_eq_false, if_false, Nat.add_zero] at hst ⊢
  rw [hst]
  simp only [Result.andThen_ok]
  show K (a'.put o.dst undef) _
  rw [hdst]
  refine h _ (hM.put hL ((Only.refl g w').setRow _) ?_ hv)
  have e : (cs.toList.take 0 ++ vs.toList ++ cs.toList.drop (0 + vs.toList.length)).toArray = vs := by
    apply Array.ext'
    simp [hv, ← hs]
  rw [e]
  exact hb.row _
theorem Mem.swap {x y : Ent} {w' : World} (h : Mem G w0 (x :: y :: L) R w') : Mem G w0 (y :: x :: L) R w' := by
  refine ⟨h.old, fun b hb => h.at_ b (by simp only [List.mem_cons] at hb ⊢; rcases hb with h1 | h1 | h1 <;> simp [h1]), ?_, h.rows, fun r hr b hb => h.apart r hr b (by simp only [List.mem_cons] at hb ⊢; rcases hb with h1 | h1 | h1 <;> simp [h1]), h.rne⟩
  have := h.ne
  simp only [List.pairwise_cons, List.mem_cons, forall_eq_or_imp] at this ⊢
  exact ⟨⟨fun he => this.1.1 he.symm, this.2.1⟩, this.1.2, this.2.2⟩
theorem Two.sub {a a' : Act} {sA rA sB rB pX pY : Nat} {vA vB : Value} {uA uB Z : Array Value} {U : TypeId} {m : Nat} {listed : Array Bool} {w' : World}
    (h : Two G w0 L R a sA rA sB rB pX pY vA vB uA uB Z U m listed a' w') : Mem G w0 L R w' := by
  obtain ⟨gX, gY, _, _, hM⟩ := h.mem
  exact hM.subL ((List.sublist_append_right _ _).trans (List.sublist_append_right _ _))
set_option maxHeartbeats 1000000 in
theorem wp_two_calls (hm : P.follows .mixedOrders = true) {id : Nat} {a : Act} {w : World} (hM : Mem G w0 L R w)
    (sA rA sB rB pX pY tA tB : Nat) {o0 o1 o2 o3 o4 o5 o6 o7 : Oper} (hops : ops = #[o0, o1, o2, o3, o4, o5, o6, o7])
    (hord : (List.range ops.size).all (fun i => ((ops[i]?).map fun o => o.after.all fun e => !Region.binds .any e || decide (e.on < i)).getD false) = true)
    (hg : (o0.guard = none ∧ o1.guard = none ∧ o2.guard = none ∧ o3.guard = none) ∧ o4.guard = none ∧ o5.guard = none ∧ o6.guard = none ∧ o7.guard = none)
    (hd : (o0.dst = some sA ∧ o1.dst = some rA ∧ o2.dst = some sB ∧ o3.dst = some rB) ∧ o4.dst = some pX ∧ o5.dst = some pY ∧ o6.dst = none ∧ o7.dst = none)
    (T U : TypeId) (f : FuncId) (ts : Array TypeId)
    (hop : (o0.op = .load T (.tmp tA) ∧ o1.op = .call { callee := .value (.func f), args := #[.tmp sA], argTypes := ts } ∧ o2.op = .load T (.tmp tB) ∧ o3.op = .call { callee := .value (.func f), args := #[.tmp sB], argTypes := ts }) ∧
      o4.op = .alloc U ∧ o5.op = .alloc U ∧ o6.op = .store U (.tmp pX) (.tmp rA) ∧ o7.op = .store U (.tmp pY) (.tmp rB))
    (hdep : ((o1.after.any fun e => Region.binds .any e && e.on == 0) = true ∧ (o3.after.any fun e => Region.binds .any e && e.on == 2) = true) ∧ ((o6.after.any fun e => Region.binds .any e && e.on == 4) = true ∧ (o6.after.any fun e => Region.binds .any e && e.on == 1) = true) ∧
      (o7.after.any fun e => Region.binds .any e && e.on == 5) = true ∧ (o7.after.any fun e => Region.binds .any e && e.on == 3) = true)
    (hsl : [sA, rA, sB, rB, pX, pY].Nodup) (htA : tA ∉ [sA, rA, sB, rB, pX, pY]) (htB : tB ∉ [sA, rA, sB, rB, pX, pY]) (hsz : ∀ s ∈ [sA, rA, sB, rB, pX, pY], s < a.tmps.size)
    (hf : ∀ args w, (callFunc f args).run P w = .ok (.enter f args) w)
    {gA gB : Nat} {cA cB : Array Value} {n m : Nat} {tyA tyB : TypeId} (hxA : a.tmps[tA]? = some (.pointer (some ⟨gA, 0, none⟩))) (hxB : a.tmps[tB]? = some (.pointer (some ⟨gB, 0, none⟩))) (hA : ⟨gA, tyA, n, cA⟩ ∈ L) (hB : ⟨gB, tyB, n, cB⟩ ∈ L) (hT : RowTy P T n)
    {uA uB Z : Array Value} (hZ : ZeroTy P U m Z) (hU : RowTy P U m) (huA : uA.size = m) (huB : uB.size = m) (h1A : ∀ v ∈ uA.toList, v.oneCell' = true) (h1B : ∀ v ∈ uB.toList, v.oneCell' = true)
    (hcA : ∀ w', Calls P f #[.agg cA] w' fun e w'' => e = .returned (.agg uA) ∧ Below w'.heap.size w' w'') (hcB : ∀ w', Calls P f #[.agg cB] w' fun e w'' => e = .returned (.agg uB) ∧ Below w'.heap.size w' w'')
    (h : ∀ gX gY w', Mem G w0 (⟨gX, U, m, uA⟩ :: ⟨gY, U, m, uB⟩ :: L) R w' →
      Q .normal ((((((a.put (some sA) (.agg cA)).put (some rA) (.agg uA)).put (some sB) (.agg cB)).put (some rB) (.agg uB)).put (some pX) (.pointer (some ⟨gX, 0, none⟩))).put (some pY) (.pointer (some ⟨gY, 0, none⟩))) w') :
    (Code.region id ops true).wp P Q a w := by
  have hN : ops.size = 8 := by rw [hops]; rfl
  have q0 : ops[0]? = some o0 := by rw [hops]; rfl
  have q1 : ops[1]? = some o1 := by rw [hops]; rfl
  have q2 : ops[2]? = some o2 := by rw [hops]; rfl
  have q3 : ops[3]? = some o3 := by rw [hops]; rfl
  have q4 : ops[4]? = some o4 := by rw [hops]; rfl
  have q5 : ops[5]? = some o5 := by rw [hops]; rfl
  have q6 : ops[6]? = some o6 := by rw [hops]; rfl
  have q7 : ops[7]? = some o7 := by rw [hops]; rfl
  obtain ⟨⟨g0, g1, g2, g3⟩, g4, g5, g6, g7⟩ := hg
  obtain ⟨⟨d0, d1, d2, d3⟩, d4, d5, d6, d7⟩ := hd
  obtain ⟨⟨p0, p1, p2, p3⟩, p4, p5, p6, p7⟩ := hop
  obtain ⟨⟨e10, e32⟩, ⟨e64, e61⟩, e75, e73⟩ := hdep
  simp only [List.nodup_cons, List.mem_cons, List.not_mem_nil, or_false, not_or, not_false_eq_true, List.nodup_nil, and_true] at hsl htA htB
  obtain ⟨⟨n01, n02, n03, n04, n05⟩, ⟨n12, n13, n14, n15⟩, ⟨n23, n24, n25⟩, ⟨n34, n35⟩, n45⟩ := hsl
  obtain ⟨tA0, tA1, tA2, tA3, tA4, tA5⟩ := htA
  obtain ⟨tB0, tB1, tB2, tB3, tB4, tB5⟩ := htB
  have zsA := hsz sA (by simp)
  have zrA := hsz rA (by simp)
  have zsB := hsz sB (by simp)
  have zrB := hsz rB (by simp)
  have zpX := hsz pX (by simp)
  have zpY := hsz pY (by simp)
  clear hsz hops
  refine wp_region_inv hm (Two G w0 L R a sA rA sB rB pX pY (.agg cA) (.agg cB) uA uB Z U m) ?_ ?_ ?_
  · have hz : ∀ j, (Array.replicate ops.size false).getD j false = true → False := fun j => by simp [Array.getD_eq_getD_getElem?, Array.getElem?_replicate]; split <;> simp
    refine ⟨by simp [hN], rfl, rfl, fun s _ _ _ _ _ _ => rfl, fun h => (hz _ h).elim, fun h => (hz _ h).elim, fun h => (hz _ h).elim, fun h => (hz _ h).elim, fun _ => Bool.eq_false_iff.2 (hz 6), fun _ => Bool.eq_false_iff.2 (hz 7), 0, 0, fun h => (hz _ h).elim, fun h => (hz _ h).elim, ?_⟩
    rw [if_neg (hz 4), if_neg (hz 5)]
    exact hM.drew
  · intro listed a' w' i hI hr K hK
    have hi : i < 8 := by
      obtain ⟨_, o, ho, _⟩ := mem_ready.1 hr
      have := (Array.getElem?_eq_some_iff.1 ho).1
      omega
    have hS := hI.size
    have hun : listed.getD i false = false := by
      have := (mem_ready.1 hr).1
      have hl : i < listed.size := by omega
      simpa [Array.getD, hl] using this
    have hM' := hI.sub
    obtain ⟨hs, hdf, htm, hfar, k0, k1, k2, k3, hst4, hst5, gX, gY, kX, kY, hMem⟩ := hI
    rcases (show i = 0 ∨ i = 1 ∨ i = 2 ∨ i = 3 ∨ i = 4 ∨ i = 5 ∨ i = 6 ∨ i = 7 by omega) with rfl | rfl | rfl | rfl | rfl | rfl | rfl | rfl
    · refine wpOp_plain q0 g0 (owp_load hM' p0 (eval_of_get ((hfar tA tA0 tA1 tA2 tA3 tA4 tA5).trans hxA)) hA hT (hK _ _ ?_))
      rw [d0]
      have hg := put_get (a := a') (s := sA) (v := .agg cA) (by rw [htm]; assumption)
      refine ⟨by simp [hs], hdf, by simpa [Act.put] using htm, ?_, ?_, ?_, ?_, ?_, fun hj => by rw [getD_put_ne (i := 0) (j := 4) (by decide)] at hj; rw [getD_put_ne (i := 0) (j := 6) (by decide)]; exact hst4 hj, fun hj => by rw [getD_put_ne (i := 0) (j := 5) (by decide)] at hj; rw [getD_put_ne (i := 0) (j := 7) (by decide)]; exact hst5 hj, gX, gY, ?_, ?_, ?_⟩
      · intro s n0 n1 n2 n3 n4 n5
        rw [hg, if_neg (Ne.symm n0)]
        exact hfar s n0 n1 n2 n3 n4 n5
      · intro _
        rw [hg, if_pos rfl]
      · intro hj
        rw [getD_put_ne (i := 0) (j := 1) (by decide)] at hj
        rw [hg, if_neg (by first | assumption | exact Ne.symm (by assumption))]
        exact k1 hj
      · intro hj
        rw [getD_put_ne (i := 0) (j := 2) (by decide)] at hj
        rw [hg, if_neg (by first | assumption | exact Ne.symm (by assumption))]
        exact k2 hj
      · intro hj
        rw [getD_put_ne (i := 0) (j := 3) (by decide)] at hj
        rw [hg, if_neg (by first | assumption | exact Ne.symm (by assumption))]
        exact k3 hj
      · intro hj
        rw [getD_put_ne (i := 0) (j := 4) (by decide)] at hj
        rw [hg, if_neg (by first | assumption | exact Ne.symm (by assumption))]
        exact kX hj
      · intro hj
        rw [getD_put_ne (i := 0) (j := 5) (by decide)] at hj
        rw [hg, if_neg (by first | assumption | exact Ne.symm (by assumption))]
        exact kY hj
      · rw [getD_put_ne (i := 0) (j := 4) (by decide), getD_put_ne (i := 0) (j := 6) (by decide), getD_put_ne (i := 0) (j := 5) (by decide), getD_put_ne (i := 0) (j := 7) (by decide)]
        exact hMem
    · refine wpOp_plain q1 g1 (owp_call hf p1 (eval_of_get (k0 (ready_after q1 e10 hr))) (hcA w') fun w'' hb => hK _ _ ?_)
      rw [d1]
      have hg := put_get (a := a') (s := rA) (v := .agg uA) (by rw [htm]; assumption)
      refine ⟨by simp [hs], hdf, by simpa [Act.put] using htm, ?_, ?_, ?_, ?_, ?_, fun hj => by rw [getD_put_ne (i := 1) (j := 4) (by decide)] at hj; rw [getD_put_ne (i := 1) (j := 6) (by decide)]; exact hst4 hj, fun hj => by rw [getD_put_ne (i := 1) (j := 5) (by decide)] at hj; rw [getD_put_ne (i := 1) (j := 7) (by decide)]; exact hst5 hj, gX, gY, ?_, ?_, ?_⟩
      · intro s n0 n1 n2 n3 n4 n5
        rw [hg, if_neg (Ne.symm n1)]
        exact hfar s n0 n1 n2 n3 n4 n5
      · intro hj
        rw [getD_put_ne (i := 1) (j := 0) (by decide)] at hj
        rw [hg, if_neg (by first | assumption | exact Ne.symm (by assumption))]
        exact k0 hj
      · intro _
        rw [hg, if_pos rfl]
      · intro hj
        rw [getD_put_ne (i := 1) (j := 2) (by decide)] at hj
        rw [hg, if_neg (by first | assumption | exact Ne.symm (by assumption))]
        exact k2 hj
      · intro hj
        rw [getD_put_ne (i := 1) (j := 3) (by decide)] at hj
        rw [hg, if_neg (by first | assumption | exact Ne.symm (by assumption))]
        exact k3 hj
      · intro hj
        rw [getD_put_ne (i := 1) (j := 4) (by decide)] at hj
        rw [hg, if_neg (by first | assumption | exact Ne.symm (by assumption))]
        exact kX hj
      · intro hj
        rw [getD_put_ne (i := 1) (j := 5) (by decide)] at hj
        rw [hg, if_neg (by first | assumption | exact Ne.symm (by assumption))]
        exact kY hj
      · rw [getD_put_ne (i := 1) (j := 4) (by decide), getD_put_ne (i := 1) (j := 6) (by decide), getD_put_ne (i := 1) (j := 5) (by decide), getD_put_ne (i := 1) (j := 7) (by decide)]
        exact hMem.step hb
    · refine wpOp_plain q2 g2 (owp_load hM' p2 (eval_of_get ((hfar tB tB0 tB1 tB2 tB3 tB4 tB5).trans hxB)) hB hT (hK _ _ ?_))
      rw [d2]
      have hg := put_get (a := a') (s := sB) (v := .agg cB) (by rw [htm]; assumption)
      refine ⟨by simp [hs], hdf, by simpa [Act.put] using htm, ?_, ?_, ?_, ?_, ?_, fun hj => by rw [getD_put_ne (i := 2) (j := 4) (by decide)] at hj; rw [getD_put_ne (i := 2) (j := 6) (by decide)]; exact hst4 hj, fun hj => by rw [getD_put_ne (i := 2) (j := 5) (by decide)] at hj; rw [getD_put_ne (i := 2) (j := 7) (by decide)]; exact hst5 hj, gX, gY, ?_, ?_, ?_⟩
      · intro s n0 n1 n2 n3 n4 n5
        rw [hg, if_neg (Ne.symm n2)]
        exact hfar s n0 n1 n2 n3 n4 n5
      · intro hj
        rw [getD_put_ne (i := 2) (j := 0) (by decide)] at hj
        rw [hg, if_neg (by first | assumption | exact Ne.symm (by assumption))]
        exact k0 hj
      · intro hj
        rw [getD_put_ne (i := 2) (j := 1) (by decide)] at hj
        rw [hg, if_neg (by first | assumption | exact Ne.symm (by assumption))]
        exact k1 hj
      · intro _
        rw [hg, if_pos rfl]
      · intro hj
        rw [getD_put_ne (i := 2) (j := 3) (by decide)] at hj
        rw [hg, if_neg (by first | assumption | exact Ne.symm (by assumption))]
        exact k3 hj
      · intro hj
        rw [getD_put_ne (i := 2) (j := 4) (by decide)] at hj
        rw [hg, if_neg (by first | assumption | exact Ne.symm (by assumption))]
        exact kX hj
      · intro hj
        rw [getD_put_ne (i := 2) (j := 5) (by decide)] at hj
        rw [hg, if_neg (by first | assumption | exact Ne.symm (by assumption))]
        exact kY hj
      · rw [getD_put_ne (i := 2) (j := 4) (by decide), getD_put_ne (i := 2) (j := 6) (by decide), getD_put_ne (i := 2) (j := 5) (by decide), getD_put_ne (i := 2) (j := 7) (by decide)]
        exact hMem
    · refine wpOp_plain q3 g3 (owp_call hf p3 (eval_of_get (k2 (ready_after q3 e32 hr))) (hcB w') fun w'' hb => hK _ _ ?_)
      rw [d3]
      have hg := put_get (a := a') (s := rB) (v := .agg uB) (by rw [htm]; assumption)
      refine ⟨by simp [hs], hdf, by simpa [Act.put] using htm, ?_, ?_, ?_, ?_, ?_, fun hj => by rw [getD_put_ne (i := 3) (j := 4) (by decide)] at hj; rw [getD_put_ne (i := 3) (j := 6) (by decide)]; exact hst4 hj, fun hj => by rw [getD_put_ne (i := 3) (j := 5) (by decide)] at hj; rw [getD_put_ne (i := 3) (j := 7) (by decide)]; exact hst5 hj, gX, gY, ?_, ?_, ?_⟩
      · intro s n0 n1 n2 n3 n4 n5
        rw [hg, if_neg (Ne.symm n3)]
        exact hfar s n0 n1 n2 n3 n4 n5
      · intro hj
        rw [getD_put_ne (i := 3) (j := 0) (by decide)] at hj
        rw [hg, if_neg (by first | assumption | exact Ne.symm (by assumption))]
        exact k0 hj
      · intro hj
        rw [getD_put_ne (i := 3) (j := 1) (by decide)] at hj
        rw [hg, if_neg (by first | assumption | exact Ne.symm (by assumption))]
        exact k1 hj
      · intro hj
        rw [getD_put_ne (i := 3) (j := 2) (by decide)] at hj
        rw [hg, if_neg (by first | assumption | exact Ne.symm (by assumption))]
        exact k2 hj
      · intro _
        rw [hg, if_pos rfl]
      · intro hj
        rw [getD_put_ne (i := 3) (j := 4) (by decide)] at hj
        rw [hg, if_neg (by first | assumption | exact Ne.symm (by assumption))]
        exact kX hj
      · intro hj
        rw [getD_put_ne (i := 3) (j := 5) (by decide)] at hj
        rw [hg, if_neg (by first | assumption | exact Ne.symm (by assumption))]
        exact kY hj
      · rw [getD_put_ne (i := 3) (j := 4) (by decide), getD_put_ne (i := 3) (j := 6) (by decide), getD_put_ne (i := 3) (j := 5) (by decide), getD_put_ne (i := 3) (j := 7) (by decide)]
        exact hMem.step hb
    · refine wpOp_plain q4 g4 (owp_zero p4 hZ (hK _ _ ?_))
      rw [d4]
      have hg := put_get (a := a') (s := pX) (v := .pointer (some ⟨w'.heap.size, 0, none⟩)) (by rw [htm]; assumption)
      refine ⟨by simp [hs], hdf, by simpa [Act.put] using htm, ?_, ?_, ?_, ?_, ?_, fun hj => absurd hj (by rw [getD_put_same (i := 4) (by rw [hs]; decide)]; simp), fun hj => by rw [getD_put_ne (i := 4) (j := 5) (by decide)] at hj; rw [getD_put_ne (i := 4) (j := 7) (by decide)]; exact hst5 hj, w'.heap.size, gY, ?_, ?_, ?_⟩
      · intro s n0 n1 n2 n3 n4 n5
        rw [hg, if_neg (Ne.symm n4)]
        exact hfar s n0 n1 n2 n3 n4 n5
      · intro hj
        rw [getD_put_ne (i := 4) (j := 0) (by decide)] at hj
        rw [hg, if_neg (by first | assumption | exact Ne.symm (by assumption))]
        exact k0 hj
      · intro hj
        rw [getD_put_ne (i := 4) (j := 1) (by decide)] at hj
        rw [hg, if_neg (by first | assumption | exact Ne.symm (by assumption))]
        exact k1 hj
      · intro hj
        rw [getD_put_ne (i := 4) (j := 2) (by decide)] at hj
        rw [hg, if_neg (by first | assumption | exact Ne.symm (by assumption))]
        exact k2 hj
      · intro hj
        rw [getD_put_ne (i := 4) (j := 3) (by decide)] at hj
        rw [hg, if_neg (by first | assumption | exact Ne.symm (by assumption))]
        exact k3 hj
      · intro _
        rw [hg, if_pos rfl]
      · intro hj
        rw [getD_put_ne (i := 4) (j := 5) (by decide)] at hj
        rw [hg, if_neg (by first | assumption | exact Ne.symm (by assumption))]
        exact kY hj
      · have hno : listed.getD 6 false = false := hst4 hun
        have hZm : Z.size = m := by obtain ⟨_, _, _, hz⟩ := hZ.ex; exact hz
        rw [getD_put_same (i := 4) (by rw [hs]; decide), getD_put_ne (i := 4) (j := 6) (by decide), getD_put_ne (i := 4) (j := 5) (by decide), getD_put_ne (i := 4) (j := 7) (by decide), hno]
        rw [hun] at hMem
        simp only [if_true, Bool.false_eq_true, if_false, List.nil_append, List.cons_append] at hMem ⊢
        exact hMem.alloc _ _ hZm
    · refine wpOp_plain q5 g5 (owp_zero p5 hZ (hK _ _ ?_))
      rw [d5]
      have hg := put_get (a := a') (s := pY) (v := .pointer (some ⟨w'.heap.size, 0, none⟩)) (by rw [htm]; assumption)
      refine ⟨by simp [hs], hdf, by simpa [Act.put] using htm, ?_, ?_, ?_, ?_, ?_, fun hj => by rw [getD_put_ne (i := 5) (j := 4) (by decide)] at hj; rw [getD_put_ne (i := 5) (j := 6) (by decide)]; exact hst4 hj, fun hj => absurd hj (by rw [getD_put_same (i := 5) (by rw [hs]; decide)]; simp), gX, w'.heap.size, ?_, ?_, ?_⟩
      · intro s n0 n1 n2 n3 n4 n5
        rw [hg, if_neg (Ne.symm n5)]
        exact hfar s n0 n1 n2 n3 n4 n5
      · intro hj
        rw [getD_put_ne (i := 5) (j := 0) (by decide)] at hj
        rw [hg, if_neg (by first | assumption | exact Ne.symm (by assumption))]
        exact k0 hj
      · intro hj
        rw [getD_put_ne (i := 5) (j := 1) (by decide)] at hj
        rw [hg, if_neg (by first | assumption | exact Ne.symm (by assumption))]
        exact k1 hj
      · intro hj
        rw [getD_put_ne (i := 5) (j := 2) (by decide)] at hj
        rw [hg, if_neg (by first | assumption | exact Ne.symm (by assumption))]
        exact k2 hj
      · intro hj
        rw [getD_put_ne (i := 5) (j := 3) (by decide)] at hj
        rw [hg, if_neg (by first | assumption | exact Ne.symm (by assumption))]
        exact k3 hj
      · intro hj
        rw [getD_put_ne (i := 5) (j := 4) (by decide)] at hj
        rw [hg, if_neg (by first | assumption | exact Ne.symm (by assumption))]
        exact kX hj
      · intro _
        rw [hg, if_pos rfl]
      · have hno : listed.getD 7 false = false := hst5 hun
        have hZm : Z.size = m := by obtain ⟨_, _, _, hz⟩ := hZ.ex; exact hz
        rw [getD_put_ne (i := 5) (j := 4) (by decide), getD_put_ne (i := 5) (j := 6) (by decide), getD_put_same (i := 5) (by rw [hs]; decide), getD_put_ne (i := 5) (j := 7) (by decide), hno]
        rw [hun] at hMem
        simp only [if_true, Bool.false_eq_true, if_false, List.nil_append, List.cons_append] at hMem ⊢
        have := hMem.alloc Z U hZm
        by_cases hx : listed.getD 4 false = true
        · simp only [hx, if_true, List.cons_append, List.nil_append] at this ⊢
          exact this.swap
        · simp only [hx] at this ⊢
          exact this
    · have l4 := ready_after q6 e64 hr
      have l1 := ready_after q6 e61 hr
      rw [if_pos l4, hun, if_neg (show ¬ (false = true) by decide)] at hMem
      simp only [List.cons_append, List.nil_append] at hMem
      refine wpOp_plain q6 g6 (owp_store hMem p6 (eval_of_get (kX l4)) (eval_of_get (k1 l1)) (UpdL.head _ _ _ _ _) hU huA h1A d6 fun w'' hM2 => hK _ _ ?_)
      refine ⟨by simp [hs], hdf, htm, hfar, fun hj => k0 (by rwa [getD_put_ne (i := 6) (j := 0) (by decide)] at hj), fun hj => k1 (by rwa [getD_put_ne (i := 6) (j := 1) (by decide)] at hj), fun hj => k2 (by rwa [getD_put_ne (i := 6) (j := 2) (by decide)] at hj), fun hj => k3 (by rwa [getD_put_ne (i := 6) (j := 3) (by decide)] at hj), fun hj => absurd hj (by rw [getD_put_ne (i := 6) (j := 4) (by decide), l4]; simp), fun hj => by rw [getD_put_ne (i := 6) (j := 5) (by decide)] at hj; rw [getD_put_ne (i := 6) (j := 7) (by decide)]; exact hst5 hj, gX, gY, fun hj => kX (by rwa [getD_put_ne (i := 6) (j := 4) (by decide)] at hj), fun hj => kY (by rwa [getD_put_ne (i := 6) (j := 5) (by decide)] at hj), ?_⟩
      rw [getD_put_ne (i := 6) (j := 4) (by decide), getD_put_same (i := 6) (by rw [hs]; decide), getD_put_ne (i := 6) (j := 5) (by decide), getD_put_ne (i := 6) (j := 7) (by decide), if_pos l4, if_pos rfl]
      exact hM2
    · have l4 := ready_after q7 e75 hr
      have l1 := ready_after q7 e73 hr
      rw [if_pos l4, hun, if_neg (show ¬ (false = true) by decide)] at hMem
      simp only [List.cons_append, List.nil_append] at hMem
      refine wpOp_plain q7 g7 (owp_store hMem p7 (eval_of_get (kY l4)) (eval_of_get (k3 l1)) (F := fun cs' => (if listed.getD 4 false = true then [⟨gX, U, m, if listed.getD 6 false = true then uA else Z⟩] else []) ++ (⟨gY, U, m, cs'⟩ :: L)) ⟨_, L, rfl, fun _ => rfl⟩ hU huB h1B d7 fun w'' hM2 => hK _ _ ?_)
      refine ⟨by simp [hs], hdf, htm, hfar, fun hj => k0 (by rwa [getD_put_ne (i := 7) (j := 0) (by decide)] at hj), fun hj => k1 (by rwa [getD_put_ne (i := 7) (j := 1) (by decide)] at hj), fun hj => k2 (by rwa [getD_put_ne (i := 7) (j := 2) (by decide)] at hj), fun hj => k3 (by rwa [getD_put_ne (i := 7) (j := 3) (by decide)] at hj), fun hj => by rw [getD_put_ne (i := 7) (j := 4) (by decide)] at hj; rw [getD_put_ne (i := 7) (j := 6) (by decide)]; exact hst4 hj, fun hj => absurd hj (by rw [getD_put_ne (i := 7) (j := 5) (by decide), l4]; simp), gX, gY, fun hj => kX (by rwa [getD_put_ne (i := 7) (j := 4) (by decide)] at hj), fun hj => kY (by rwa [getD_put_ne (i := 7) (j := 5) (by decide)] at hj), ?_⟩
      rw [getD_put_ne (i := 7) (j := 4) (by decide), getD_put_ne (i := 7) (j := 6) (by decide), getD_put_ne (i := 7) (j := 5) (by decide), getD_put_same (i := 7) (by rw [hs]; decide), if_pos l4, if_pos rfl]
      exact hM2
  · intro listed a' w' hI hr
    have hall := ready_done hord (by rw [hI.size, hN]) hr
    rw [hN] at hall
    obtain ⟨hs, hdf, htm, hfar, k0, k1, k2, k3, hst4, hst5, gX, gY, kX, kY, hMem⟩ := hI
    rw [if_pos (hall 4 (by decide)), if_pos (hall 5 (by decide)), if_pos (hall 6 (by decide)), if_pos (hall 7 (by decide))] at hMem
    have := h gX gY w' (by simpa using hMem)
    refine (congrArg (fun x => Q .normal x w') ?_).mp this
    have ht : ((((((a.put (some sA) (.agg cA)).put (some rA) (.agg uA)).put (some sB) (.agg cB)).put (some rB) (.agg uB)).put (some pX) (.pointer (some ⟨gX, 0, none⟩))).put (some pY) (.pointer (some ⟨gY, 0, none⟩))).tmps = a'.tmps := by
      apply Array.ext_getElem?
      intro s
      rw [put_get (by simpa [Act.put] using zpY), put_get (by simpa [Act.put] using zpX), put_get (by simpa [Act.put] using zrB), put_get (by simpa [Act.put] using zsB), put_get (by simpa [Act.put] using zrA), put_get zsA]
      by_cases c5 : pY = s
      · rw [if_pos c5, ← c5]; exact (kY (hall 5 (by decide))).symm
      by_cases c4 : pX = s
      · rw [if_neg c5, if_pos c4, ← c4]; exact (kX (hall 4 (by decide))).symm
      by_cases c3 : rB = s
      · rw [if_neg c5, if_neg c4, if_pos c3, ← c3]; exact (k3 (hall 3 (by decide))).symm
      by_cases c2 : sB = s
      · rw [if_neg c5, if_neg c4, if_neg c3, if_pos c2, ← c2]; exact (k2 (hall 2 (by decide))).symm
      by_cases c1 : rA = s
      · rw [if_neg c5, if_neg c4, if_neg c3, if_neg c2, if_pos c1, ← c1]; exact (k1 (hall 1 (by decide))).symm
      by_cases c0 : sA = s
      · rw [if_neg c5, if_neg c4, if_neg c3, if_neg c2, if_neg c1, if_pos c0, ← c0]; exact (k0 (hall 0 (by decide))).symm
      rw [if_neg c5, if_neg c4, if_neg c3, if_neg c2, if_neg c1, if_neg c0]
      exact (hfar s (Ne.symm c0) (Ne.symm c1) (Ne.symm c2) (Ne.symm c3) (Ne.symm c4) (Ne.symm c5)).symm
    have hd : ((((((a.put (some sA) (.agg cA)).put (some rA) (.agg uA)).put (some sB) (.agg cB)).put (some rB) (.agg uB)).put (some pX) (.pointer (some ⟨gX, 0, none⟩))).put (some pY) (.pointer (some ⟨gY, 0, none⟩))).defers = a'.defers := by
      rw [put_defers, put_defers, put_defers, put_defers, put_defers, put_defers, hdf]
    exact act_ext ht hd
end
end Go.Bul
namespace Go.Bul
open Go Go.RowKit
section
variable {P : Program} {ops : Array Oper} {Q : Exit → Act → World → Prop} {G : List Nat} {w0 w : World} {L : List Ent} {R : List OwnR} {o : Oper} {a : Act} {K : Act → World → Prop} {E : Prop}
theorem step_plain (hgd : o.guard = none) (h : o.wp P a w K Q) : if Region.wanted o (yielded ops a.tmps) = true then o.wp P a w K Q else E := by
  rw [if_pos (wanted_plain hgd)]
  exact h
theorem owp_new (k : IntKind) (xs : List Nat) {cs : Array Value} {t : TypeId} (hM : Mem G w0 L R w) (hcs : cs = cellsOf k xs) (h : ∀ w', Mem G w0 (⟨w.heap.size, t, xs.length, cellsOf k xs⟩ :: L) R w' → o.wp P a w' K Q) : o.wp P a (w.alloc (.cells cs t)) K Q :=
  h _ (by rw [hcs]; exact hM.alloc _ _ (by simp))
theorem owp_new_drew (k : IntKind) (xs : List Nat) {cs : Array Value} {t : TypeId} (hM : Mem G w0 L R w.drew) (hcs : cs = cellsOf k xs) (h : ∀ w', Mem G w0 (⟨w.heap.size, t, xs.length, cellsOf k xs⟩ :: L) R w' → o.wp P a w' K Q) : o.wp P a (w.alloc (.cells cs t)).drew K Q :=
  h _ (by rw [hcs]; exact hM.alloc _ _ (by simp))
theorem store_run (hM : Mem G w0 L R w) {g : Nat} {t : TypeId} {n : Nat} {cs vs : Array Value} (hL : ⟨g, t, n, cs⟩ ∈ L) (hv : vs.size = n) (h1 : ∀ v ∈ vs.toList, v.oneCell' = true) : (storeCells ⟨g, 0, none⟩ vs.toList).run P w = .ok () (w.setRow g vs) := by
  have hb := hM.blk hL
  have hs := hM.size hL
  simp only at hb hs
  have hst := run_storeCells_at P g 0 t vs.toList 0 cs w hb (by simp; omega) h1
  have e : (cs.toList.take (0 + 0) ++ vs.toList ++ cs.toList.drop (0 + 0 + vs.toList.length)).toArray = vs := by
    apply Array.ext'
    simp [hv, ← hs]
  rw [e] at hst
  exact hst
theorem Mem.putRow (hM : Mem G w0 L R w) {g : Nat} {t : TypeId} {n : Nat} {cs vs : Array Value} {F : Array Value → List Ent} (hL : UpdL g t n cs L F) (hv : vs.size = n) : Mem G w0 (F vs) R (w.setRow g vs) := by
  have hin : (⟨g, t, n, cs⟩ : Ent) ∈ L := by obtain ⟨A, B, rfl, _⟩ := hL; simp
  exact hM.put hL ((Only.refl g w).setRow vs) ((hM.blk hin).row vs) hv
end
end Go.Bul
namespace Go.Proofs.YtpigmibaeoceaaaDoor
open Go Go.RowKit Go.Bul
theorem owp_bytes {G : List Nat} {w0 w : World} {L : List Ent} {R : List OwnR} {o : Oper} {a : Act} {K : Act → World → Prop} {Q : Exit → Act → World → Prop}
    (hM : Mem G w0 L R w) (s x : Operand) (t : TypeId) (ho : o.op = .call { callee := .builtin .append, args := #[s, x], argTypes := #[t, t] }) (ht : Tryd.prog.underlying t = some (.slice 5))
    (v : Value) (hs : a.eval s = v) (xs : List Nat) (F : OwnR → List OwnR) (hR : UpdR (brow v xs) R F) (A : Option Addr) (m c : Nat) (hx : a.eval x = .slice A m c) (ok : Nat → Prop) (ys : List Nat) (hr : Rd w ok A m ys) (h63 : xs.length + ys.length ≤ 140737488355328)
    (h : ∀ A' N c' w', Hid (N = (xs ++ ys).length) → Mem G w0 L (F (brow (.slice A' N c') (xs ++ ys))) w' → K (a.put o.dst (.slice A' N c')) w') : o.wp Tryd.prog a w K Q := by
  have hl := hr.len
  have hown := brow_own hM (mem_of_updR hR)
  obtain ⟨A', c', w', hrun, h2, h3, h4⟩ := run_append_src (P := Tryd.prog) w0.heap.size t o.type 5 (.int .u8 0) 1 1 ht info_u8 rfl (by decide) v xs.length (vals .u8 xs) hown A m c (vals .u8 ys) (by simp [hl]) (fun hm => by
    obtain ⟨ad, hA, _⟩ := hr.at_ hm
    exact ⟨ad, hA, by have := hr.cells ys.length hA; rwa [List.take_of_length_le (Nat.le_refl _)] at this⟩) (vals_one _ _) (by unfold maxLen; omega) (by omega) hM.le
  have e : xs.length + m = (xs ++ ys).length := by simp [hl]
  rw [e] at h2 h4 hrun
  have h2' : OwnB w' w0.heap.size (.slice A' (xs ++ ys).length c') (xs ++ ys) := by unfold OwnB; rwa [show vals .u8 (xs ++ ys) = vals .u8 xs ++ vals .u8 ys by simp [vals]]
  unfold Oper.wp execOp
  simp only [ho, resolve, invoke, builtin, Sem.run_bind, Sem.run_pure, Result.andThen_ok, List.map_toArray, List.map_cons, List.map_nil, hs, hx, hrun]
  exact h A' _ c' w' (Lib.hid rfl) (hM.rowPut hR h3 h2' h4)
end Go.Proofs.YtpigmibaeoceaaaDoor
