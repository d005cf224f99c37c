/- 'x, y := f(a), f(b)' where the results are arrays: two loads, two calls, two new variables, two stores, in whatever order comes up. Drawn regions with calls, two new variables and a store into each, in whatever order comes up; what was made beside all else. No program. Laws of drawn regions over the types of one-time signatures; the index of an array of numbers that is a value; builds of evidence. Contracts of onetime.Lower and of the reference's. Condition: digests of 16 bytes. -/
import Derived.Test.YtbbdnlcjjcmllaaDoorXo
import Derived.Test.YtbbdnlcjjcmllaaDoorVi
import Derived.Test.YtbbdnlcjjcmllaaDoorVj
import Derived.Test.YtbbdnlcjjcmllaaDoorXt
import Derived.Test.YtbbdnlcjjcmllaaDoorXr
import Derived.Test.YtbbdnlcjjcmllaaDoorVp
namespace Go.Bul.Hp
open Go Go.RowKit
/-- Where each operation waits only for earlier ones, a region ends when all are done. -/
theorem ready_done {ops : Array Oper} {listed : Array Bool} (hord : (List.range ops.size).all (fun i => ((ops[i]?).map fun o => o.after.all fun e => !Region.binds .any e || decide (e.on < i)).getD false) = true)
    (hs : listed.size = ops.size) (hr : Region.ready .any ops listed = []) : ∀ i, i < ops.size → listed.getD i false = true := by
  intro i
  induction i using Nat.strongRecOn with
  | _ i ih =>
    intro hi
    cases h : listed.getD i false with
    | true => rfl
    | false =>
      have h0 : listed.getD i true = false := by
        have hl : i < listed.size := by omega
        simp only [Array.getD, hl, dite_true] at h ⊢
        exact h
      have hm : i ∈ Region.ready .any ops listed := by
        rw [mem_ready]
        refine ⟨h0, ops[i], by simp [hi], fun e he hb => ?_⟩
        have := List.all_eq_true.1 hord i (List.mem_range.2 hi)
        simp only [hi, getElem?_pos, Option.map_some, Option.getD_some] at this
        have h2 := Array.all_eq_true'.1 this e he
        simp only [hb, Bool.not_true, Bool.false_or, decide_eq_true_eq] at h2
        have h3 := ih e.on h2 (by omega)
        simpa using h3
      rw [hr] at hm
      cases hm
/-- An operation that comes up has what it waits for. -/
theorem ready_after {ops : Array Oper} {listed : Array Bool} {i j : Nat} {o : Oper} (ho : ops[i]? = some o) (hd : (o.after.any fun e => Region.binds .any e && e.on == j) = true) (hr : i ∈ Region.ready .any ops listed) : listed.getD j false = true := by
  obtain ⟨_, o', ho', h⟩ := mem_ready.1 hr
  rw [ho] at ho'
  obtain rfl := Option.some.inj ho'
  obtain ⟨e, he, hb⟩ := Array.any_eq_true'.1 hd
  simp only [Bool.and_eq_true, beq_iff_eq] at hb
  have := h e he hb.1
  rw [hb.2] at this
  simpa using this
theorem getD_put_true {l : Array Bool} {i : Nat} (hi : i < l.size) (j : Nat) : ((l.setIfInBounds i true).getD j false = true) ↔ (j = i ∨ l.getD j false = true) := by
  simp only [Array.getD_eq_getD_getElem?, Array.getElem?_setIfInBounds]
  by_cases h : i = j
  · subst h; simp [hi]
  · simp [h, Ne.symm h]
theorem getD_put_ne {l : Array Bool} {i j : Nat} (h : i ≠ j) : (l.setIfInBounds i true).getD j false = l.getD j false := by
  simp only [Array.getD_eq_getD_getElem?, Array.getElem?_setIfInBounds, h, if_false]
theorem getD_put_same {l : Array Bool} {i : Nat} (hi : i < l.size) : (l.setIfInBounds i true).getD i false = true := (getD_put_true hi i).2 (.inl rfl)
theorem put_defers (a : Act) (d : Option Tmp) (v : Value) : (a.put d v).defers = a.defers := by cases d <;> rfl
theorem act_ext {a b : Act} (h1 : a.tmps = b.tmps) (h2 : a.defers = b.defers) : a = b := by
  cases a
  cases b
  simp only at h1 h2
  subst h1 h2
  rfl
theorem put_get {a : Act} {s : Nat} {v : Value} (hs : s < a.tmps.size) (t : Nat) : (a.put (some s) v).tmps[t]? = if s = t then some v else a.tmps[t]? := by
  simp only [Act.put, Array.getElem?_setIfInBounds]
  by_cases h : s = t
  · subst h; simp [hs]
  · simp [h]
theorem eval_of_get {a : Act} {s : Nat} {v : Value} (h : a.tmps[s]? = some v) : a.eval (.tmp s) = v := by simp [Act.eval, Array.getD_eq_getD_getElem?, h]
section
variable {P : Program} {ops : Array Oper} {Q : Exit → Act → World → Prop} {G : List Nat} {w0 : World} {L : List Ent} {R : List OwnR}
/-- The state between: what has been done has left its mark. -/
structure Two (G : List Nat) (w0 : World) (L : List Ent) (R : List OwnR) (a : Act) (sA rA sB rB pX pY : Nat) (vA vB : Value) (uA uB Z : Array Value) (U : TypeId) (m : Nat) (listed : Array Bool) (a' : Act) (w' : World) : Prop where
  size : listed.size = 8
  defers : a'.defers = a.defers
  tmps : a'.tmps.size = a.tmps.size
  far : ∀ s, s ≠ sA → s ≠ rA → s ≠ sB → s ≠ rB → s ≠ pX → s ≠ pY → a'.tmps[s]? = a.tmps[s]?
  h0 : listed.getD 0 false = true → a'.tmps[sA]? = some vA
  h1 : listed.getD 1 false = true → a'.tmps[rA]? = some (.agg uA)
  h2 : listed.getD 2 false = true → a'.tmps[sB]? = some vB
  h3 : listed.getD 3 false = true → a'.tmps[rB]? = some (.agg uB)
  st4 : listed.getD 4 false = false → listed.getD 6 false = false
  st5 : listed.getD 5 false = false → listed.getD 7 false = false
  mem : ∃ gX gY, (listed.getD 4 false = true → a'.tmps[pX]? = some (.pointer (some ⟨gX, 0, none⟩))) ∧ (listed.getD 5 false = true → a'.tmps[pY]? = some (.pointer (some ⟨gY, 0, none⟩))) ∧
    Mem G w0 ((if listed.getD 4 false = true then [⟨gX, U, m, if listed.getD 6 false = true then uA else Z⟩] else []) ++ ((if listed.getD 5 false = true then [⟨gY, U, m, if listed.getD 7 false = true then uB else Z⟩] else []) ++ L)) R w'
theorem wanted_plain {o : Oper} {a' : Act} (hg : o.guard = none) : Region.wanted o (yielded ops a'.tmps) = true := by simp [Region.wanted, hg]
theorem wpOp_plain {i : Nat} {o : Oper} {a' : Act} {w' : World} {K : Act → World → Prop} (ho : ops[i]? = some o) (hg : o.guard = none) (h : o.wp P a' w' K Q) : wpOp P ops Q i K a' w' := by
  unfold wpOp
  rw [ho]
  simp only [wanted_plain hg, if_true]
  exact .inl h
theorem owp_load {o : Oper} {a' : Act} {w' : World} {K : Act → World → Prop} (hM : Mem G w0 L R w') {ty : TypeId} {x : Operand} (ho : o.op = .load ty x) {g : Nat} (hx : a'.eval x = .pointer (some ⟨g, 0, none⟩)) {t : TypeId} {n : Nat} {cs : Array Value} (hL : ⟨g, t, n, cs⟩ ∈ L) (hty : RowTy P ty n)
    (h : K (a'.put o.dst (.agg cs)) w') : o.wp P a' w' K Q := by
  obtain ⟨d, hu, hd, hi⟩ := hty.ex
  have hs := hM.size hL
  unfold Oper.wp execOp
  simp only [ho, hx, Instr.loadAt, Instr.sureAddr, Sem.run_bind, Sem.run_pure, Result.andThen_ok, run_load_part w' g 0 t ty cs n d (hM.blk hL) hu hd hi (by omega)]
  have e : cs.extract 0 (0 + n) = cs := by simp [← hs]
  rw [e]
  exact h
theorem owp_call {o : Oper} {a' : Act} {w' : World} {K : Act → World → Prop} {f : FuncId} {x : Operand} {ts : Array TypeId} (hf : ∀ args w, (callFunc f args).run P w = .ok (.enter f args) w) (ho : o.op = .call { callee := .value (.func f), args := #[x], argTypes := ts }) {v u : Value} (hx : a'.eval x = v)
    (hc : Calls P f #[v] w' fun e w'' => e = .returned u ∧ Below w'.heap.size w' w'') (h : ∀ w'', Below w'.heap.size w' w'' → K (a'.put o.dst u) w'') : o.wp P a' w' K Q := by
  have hr : (execOp a'.eval o).run P w' = .ok (.enter f #[v]) w' := by
    unfold execOp
    have e : a'.eval (.func f) = .func (.func f) #[] #[] := rfl
    simp only [ho, resolve, e, Deferred.ofValue, Sem.run_bind, Sem.run_pure, Result.andThen_ok, List.map_toArray, List.map_cons, List.map_nil, hx, invoke, Array.append_empty, Array.empty_append, hf]
  unfold Oper.wp
  rw [hr]
  refine hc.mono ?_
  rintro e w'' ⟨rfl, hb⟩
  exact h w'' hb
theorem owp_zero {o : Oper} {a' : Act} {w' : World} {K : Act → World → Prop} {ty : TypeId} (ho : o.op = .alloc ty) {n : Nat} {cs : Array Value} (hz : ZeroTy P ty n cs) (h : K (a'.put o.dst (.pointer (some ⟨w'.heap.size, 0, none⟩))) (w'.alloc (.cells cs ty))) : o.wp P a' w' K Q := by
  obtain ⟨z, hzz, rfl, _⟩ := hz.ex
  cases hq : P.info? ty with
  | none => simp [hq] at hzz
  | some i =>
    have hz' : i.zero = some z := by simpa [hq] using hzz
    unfold Oper.wp execOp
    simp only [ho, Instr.alloc, zeroValue, typeInfo, newVar, newRow, newObj, Sem.run_bind, Sem.run_pure, Result.andThen_ok, run_program, hq, hz']
    exact h
theorem owp_store {o : Oper} {a' : Act} {w' : World} {K : Act → World → Prop} (hM : Mem G w0 L R w') {ty : TypeId} {x y : Operand} (ho : o.op = .store ty x y) {g : Nat} (hx : a'.eval x = .pointer (some ⟨g, 0, none⟩)) {vs : Array Value} (hy : a'.eval y = .agg vs) {t : TypeId} {n : Nat} {cs : Array Value}
    {F : Array Value → List Ent} (hL : UpdL g t n cs L F) (hty : RowTy P ty n) (hv : vs.size = n) (h1 : ∀ v ∈ vs.toList, v.oneCell' = true) (hdst : o.dst = none) (h : ∀ w'', Mem G w0 (F vs) R w'' → K a' w'') : o.wp P a' w' K Q := by
  obtain ⟨d, hu, hd, hi⟩ := hty.ex
  have hin : (⟨g, t, n, cs⟩ : Ent) ∈ L := by obtain ⟨A, B, rfl, _⟩ := hL; simp
  have hb := hM.blk hin
  have hs := hM.size hin
  simp only at hb hs
  have hst := run_storeCells_at P g 0 t vs.toList 0 cs w' hb (by simp; omega) h1
  unfold Oper.wp execOp
  simp only [ho, hx, hy, Instr.storeAt, Instr.sureAddr, storeVar, Value.cells, Sem.run_bind, Sem.run_pure, Result.andThen_ok, run_sizeOf hi, hv, ne_eq, not_true_eq_false, if_false, Nat.add_zero] at hst ⊢
  rw [hst]
  simp only [Result.andThen_ok]
  show K (a'.put o.dst undef) _
  rw [hdst]
  refine h _ (hM.put hL ((Only.refl g w').setRow _) ?_ hv)
  have e : (cs.toList.take 0 ++ vs.toList ++ cs.toList.drop (0 + vs.toList.length)).toArray = vs := by
    apply Array.ext'
    simp [hv, ← hs]
  rw [e]
  exact hb.row _
theorem Mem.swap {x y : Ent} {w' : World} (h : Mem G w0 (x :: y :: L) R w') : Mem G w0 (y :: x :: L) R w' := by
  refine ⟨h.old, fun b hb => h.at_ b (by simp only [List.mem_cons] at hb ⊢; rcases hb with h1 | h1 | h1 <;> simp [h1]), ?_, h.rows, fun r hr b hb => h.apart r hr b (by simp only [List.mem_cons] at hb ⊢; rcases hb with h1 | h1 | h1 <;> simp [h1]), h.rne⟩
  have := h.ne
  simp only [List.pairwise_cons, List.mem_cons, forall_eq_or_imp] at this ⊢
  exact ⟨⟨fun he => this.1.1 he.symm, this.2.1⟩, this.1.2, this.2.2⟩
theorem Two.sub {a a' : Act} {sA rA sB rB pX pY : Nat} {vA vB : Value} {uA uB Z : Array Value} {U : TypeId} {m : Nat} {listed : Array Bool} {w' : World}
    (h : Two G w0 L R a sA rA sB rB pX pY vA vB uA uB Z U m listed a' w') : Mem G w0 L R w' := by
  obtain ⟨gX, gY, _, _, hM⟩ := h.mem
  exact hM.subL ((List.sublist_append_right _ _).trans (List.sublist_append_right _ _))
set_option maxHeartbeats 1000000 in
theorem wp_two_calls (hm : P.follows .mixedOrders = true) {id : Nat} {a : Act} {w : World} (hM : Mem G w0 L R w)
    (sA rA sB rB pX pY tA tB : Nat) {o0 o1 o2 o3 o4 o5 o6 o7 : Oper} (hops : ops = #[o0, o1, o2, o3, o4, o5, o6, o7])
    (hord : (List.range ops.size).all (fun i => ((ops[i]?).map fun o => o.after.all fun e => !Region.binds .any e || decide (e.on < i)).getD false) = true)
    (hg : (o0.guard = none ∧ o1.guard = none ∧ o2.guard = none ∧ o3.guard = none) ∧ o4.guard = none ∧ o5.guard = none ∧ o6.guard = none ∧ o7.guard = none)
    (hd : (o0.dst = some sA ∧ o1.dst = some rA ∧ o2.dst = some sB ∧ o3.dst = some rB) ∧ o4.dst = some pX ∧ o5.dst = some pY ∧ o6.dst = none ∧ o7.dst = none)
    (T U : TypeId) (f : FuncId) (ts : Array TypeId)
    (hop : (o0.op = .load T (.tmp tA) ∧ o1.op = .call { callee := .value (.func f), args := #[.tmp sA], argTypes := ts } ∧ o2.op = .load T (.tmp tB) ∧ o3.op = .call { callee := .value (.func f), args := #[.tmp sB], argTypes := ts }) ∧
      o4.op = .alloc U ∧ o5.op = .alloc U ∧ o6.op = .store U (.tmp pX) (.tmp rA) ∧ o7.op = .store U (.tmp pY) (.tmp rB))
    (hdep : ((o1.after.any fun e => Region.binds .any e && e.on == 0) = true ∧ (o3.after.any fun e => Region.binds .any e && e.on == 2) = true) ∧ ((o6.after.any fun e => Region.binds .any e && e.on == 4) = true ∧ (o6.after.any fun e => Region.binds .any e && e.on == 1) = true) ∧
      (o7.after.any fun e => Region.binds .any e && e.on == 5) = true ∧ (o7.after.any fun e => Region.binds .any e && e.on == 3) = true)
    (hsl : [sA, rA, sB, rB, pX, pY].Nodup) (htA : tA ∉ [sA, rA, sB, rB, pX, pY]) (htB : tB ∉ [sA, rA, sB, rB, pX, pY]) (hsz : ∀ s ∈ [sA, rA, sB, rB, pX, pY], s < a.tmps.size)
    (hf : ∀ args w, (callFunc f args).run P w = .ok (.enter f args) w)
    {gA gB : Nat} {cA cB : Array Value} {n m : Nat} {tyA tyB : TypeId} (hxA : a.tmps[tA]? = some (.pointer (some ⟨gA, 0, none⟩))) (hxB : a.tmps[tB]? = some (.pointer (some ⟨gB, 0, none⟩))) (hA : ⟨gA, tyA, n, cA⟩ ∈ L) (hB : ⟨gB, tyB, n, cB⟩ ∈ L) (hT : RowTy P T n)
    {uA uB Z : Array Value} (hZ : ZeroTy P U m Z) (hU : RowTy P U m) (huA : uA.size = m) (huB : uB.size = m) (h1A : ∀ v ∈ uA.toList, v.oneCell' = true) (h1B : ∀ v ∈ uB.toList, v.oneCell' = true)
    (hcA : ∀ w', Calls P f #[.agg cA] w' fun e w'' => e = .returned (.agg uA) ∧ Below w'.heap.size w' w'') (hcB : ∀ w', Calls P f #[.agg cB] w' fun e w'' => e = .returned (.agg uB) ∧ Below w'.heap.size w' w'')
    (h : ∀ gX gY w', Mem G w0 (⟨gX, U, m, uA⟩ :: ⟨gY, U, m, uB⟩ :: L) R w' →
      Q .normal ((((((a.put (some sA) (.agg cA)).put (some rA) (.agg uA)).put (some sB) (.agg cB)).put (some rB) (.agg uB)).put (some pX) (.pointer (some ⟨gX, 0, none⟩))).put (some pY) (.pointer (some ⟨gY, 0, none⟩))) w') :
    (Code.region id ops true).wp P Q a w := by
  have hN : ops.size = 8 := by rw [hops]; rfl
  have q0 : ops[0]? = some o0 := by rw [hops]; rfl
  have q1 : ops[1]? = some o1 := by rw [hops]; rfl
  have q2 : ops[2]? = some o2 := by rw [hops]; rfl
  have q3 : ops[3]? = some o3 := by rw [hops]; rfl
  have q4 : ops[4]? = some o4 := by rw [hops]; rfl
  have q5 : ops[5]? = some o5 := by rw [hops]; rfl
  have q6 : ops[6]? = some o6 := by rw [hops]; rfl
  have q7 : ops[7]? = some o7 := by rw [hops]; rfl
  obtain ⟨⟨g0, g1, g2, g3⟩, g4, g5, g6, g7⟩ := hg
  obtain ⟨⟨d0, d1, d2, d3⟩, d4, d5, d6, d7⟩ := hd
  obtain ⟨⟨p0, p1, p2, p3⟩, p4, p5, p6, p7⟩ := hop
  obtain ⟨⟨e10, e32⟩, ⟨e64, e61⟩, e75, e73⟩ := hdep
  simp only [List.nodup_cons, List.mem_cons, List.not_mem_nil, or_false, not_or, not_false_eq_true, List.nodup_nil, and_true] at hsl htA htB
  obtain ⟨⟨n01, n02, n03, n04, n05⟩, ⟨n12, n13, n14, n15⟩, ⟨n23, n24, n25⟩, ⟨n34, n35⟩, n45⟩ := hsl
  obtain ⟨tA0, tA1, tA2, tA3, tA4, tA5⟩ := htA
  obtain ⟨tB0, tB1, tB2, tB3, tB4, tB5⟩ := htB
  have zsA := hsz sA (by simp)
  have zrA := hsz rA (by simp)
  have zsB := hsz sB (by simp)
  have zrB := hsz rB (by simp)
  have zpX := hsz pX (by simp)
  have zpY := hsz pY (by simp)
  clear hsz hops
  refine wp_region_inv hm (Two G w0 L R a sA rA sB rB pX pY (.agg cA) (.agg cB) uA uB Z U m) ?_ ?_ ?_
  · have hz : ∀ j, (Array.replicate ops.size false).getD j false = true → False := fun j => by simp [Array.getD_eq_getD_getElem?, Array.getElem?_replicate]; split <;> simp
    refine ⟨by simp [hN], rfl, rfl, fun s _ _ _ _ _ _ => rfl, fun h => (hz _ h).elim, fun h => (hz _ h).elim, fun h => (hz _ h).elim, fun h => (hz _ h).elim, fun _ => Bool.eq_false_iff.2 (hz 6), fun _ => Bool.eq_false_iff.2 (hz 7), 0, 0, fun h => (hz _ h).elim, fun h => (hz _ h).elim, ?_⟩
    rw [if_neg (hz 4), if_neg (hz 5)]
    exact hM.drew
  · intro listed a' w' i hI hr K hK
    have hi : i < 8 := by
      obtain ⟨_, o, ho, _⟩ := mem_ready.1 hr
      have := (Array.getElem?_eq_some_iff.1 ho).1
      omega
    have hS := hI.size
    have hun : listed.getD i false = false := by
      have := (mem_ready.1 hr).1
      have hl : i < listed.size := by omega
      simpa [Array.getD, hl] using this
    have hM' := hI.sub
    obtain ⟨hs, hdf, htm, hfar, k0, k1, k2, k3, hst4, hst5, gX, gY, kX, kY, hMem⟩ := hI
    rcases (show i = 0 ∨ i = 1 ∨ i = 2 ∨ i = 3 ∨ i = 4 ∨ i = 5 ∨ i = 6 ∨ i = 7 by omega) with rfl | rfl | rfl | rfl | rfl | rfl | rfl | rfl
    · refine wpOp_plain q0 g0 (owp_load hM' p0 (eval_of_get ((hfar tA tA0 tA1 tA2 tA3 tA4 tA5).trans hxA)) hA hT (hK _ _ ?_))
      rw [d0]
      have hg := put_get (a := a') (s := sA) (v := .agg cA) (by rw [htm]; assumption)
      refine ⟨by simp [hs], hdf, by simpa [Act.put] using htm, ?_, ?_, ?_, ?_, ?_, fun hj => by rw [getD_put_ne (i := 0) (j := 4) (by decide)] at hj; rw [getD_put_ne (i := 0) (j := 6) (by decide)]; exact hst4 hj, fun hj => by rw [getD_put_ne (i := 0) (j := 5) (by decide)] at hj; rw [getD_put_ne (i := 0) (j := 7) (by decide)]; exact hst5 hj, gX, gY, ?_, ?_, ?_⟩
      · intro s n0 n1 n2 n3 n4 n5
        rw [hg, if_neg (Ne.symm n0)]
        exact hfar s n0 n1 n2 n3 n4 n5
      · intro _
        rw [hg, if_pos rfl]
      · intro hj
        rw [getD_put_ne (i := 0) (j := 1) (by decide)] at hj
        rw [hg, if_neg (by first | assumption | exact Ne.symm (by assumption))]
        exact k1 hj
      · intro hj
        rw [getD_put_ne (i := 0) (j := 2) (by decide)] at hj
        rw [hg, if_neg (by first | assumption | exact Ne.symm (by assumption))]
        exact k2 hj
      · intro hj
        rw [getD_put_ne (i := 0) (j := 3) (by decide)] at hj
        rw [hg, if_neg (by first | assumption | exact Ne.symm (by assumption))]
        exact k3 hj
      · intro hj
        rw [getD_put_ne (i := 0) (j := 4) (by decide)] at hj
        rw [hg, if_neg (by first | assumption | exact Ne.symm (by assumption))]
        exact kX hj
      · intro hj
        rw [getD_put_ne (i := 0) (j := 5) (by decide)] at hj
        rw [hg, if_neg (by first | assumption | exact Ne.symm (by assumption))]
        exact kY hj
      · rw [getD_put_ne (i := 0) (j := 4) (by decide), getD_put_ne (i := 0) (j := 6) (by decide), getD_put_ne (i := 0) (j := 5) (by decide), getD_put_ne (i := 0) (j := 7) (by decide)]
        exact hMem
    · refine wpOp_plain q1 g1 (owp_call hf p1 (eval_of_get (k0 (ready_after q1 e10 hr))) (hcA w') fun w'' hb => hK _ _ ?_)
      rw [d1]
      have hg := put_get (a := a') (s := rA) (v := .agg uA) (by rw [htm]; assumption)
      refine ⟨by simp [hs], hdf, by simpa [Act.put] using htm, ?_, ?_, ?_, ?_, ?_, fun hj => by rw [getD_put_ne (i := 1) (j := 4) (by decide)] at hj; rw [getD_put_ne (i := 1) (j := 6) (by decide)]; exact hst4 hj, fun hj => by rw [getD_put_ne (i := 1) (j := 5) (by decide)] at hj; rw [getD_put_ne (i := 1) (j := 7) (by decide)]; exact hst5 hj, gX, gY, ?_, ?_, ?_⟩
      · intro s n0 n1 n2 n3 n4 n5
        rw [hg, if_neg (Ne.symm n1)]
        exact hfar s n0 n1 n2 n3 n4 n5
      · intro hj
        rw [getD_put_ne (i := 1) (j := 0) (by decide)] at hj
        rw [hg, if_neg (by first | assumption | exact Ne.symm (by assumption))]
        exact k0 hj
      · intro _
        rw [hg, if_pos rfl]
      · intro hj
        rw [getD_put_ne (i := 1) (j := 2) (by decide)] at hj
        rw [hg, if_neg (by first | assumption | exact Ne.symm (by assumption))]
        exact k2 hj
      · intro hj
        rw [getD_put_ne (i := 1) (j := 3) (by decide)] at hj
        rw [hg, if_neg (by first | assumption | exact Ne.symm (by assumption))]
        exact k3 hj
      · intro hj
        rw [getD_put_ne (i := 1) (j := 4) (by decide)] at hj
        rw [hg, if_neg (by first | assumption | exact Ne.symm (by assumption))]
        exact kX hj
      · intro hj
        rw [getD_put_ne (i := 1) (j := 5) (by decide)] at hj
        rw [hg, if_neg (by first | assumption | exact Ne.symm (by assumption))]
        exact kY hj
      · rw [getD_put_ne (i := 1) (j := 4) (by decide), getD_put_ne (i := 1) (j := 6) (by decide), getD_put_ne (i := 1) (j := 5) (by decide), getD_put_ne (i := 1) (j := 7) (by decide)]
        exact hMem.step hb
    · refine wpOp_plain q2 g2 (owp_load hM' p2 (eval_of_get ((hfar tB tB0 tB1 tB2 tB3 tB4 tB5).trans hxB)) hB hT (hK _ _ ?_))
      rw [d2]
      have hg := put_get (a := a') (s := sB) (v := .agg cB) (by rw [htm]; assumption)
      refine ⟨by simp [hs], hdf, by simpa [Act.put] using htm, ?_, ?_, ?_, ?_, ?_, fun hj => by rw [getD_put_ne (i := 2) (j := 4) (by decide)] at hj; rw [getD_put_ne (i := 2) (j := 6) (by decide)]; exact hst4 hj, fun hj => by rw [getD_put_ne (i := 2) (j := 5) (by decide)] at hj; rw [getD_put_ne (i := 2) (j := 7) (by decide)]; exact hst5 hj, gX, gY, ?_, ?_, ?_⟩
      · intro s n0 n1 n2 n3 n4 n5
        rw [hg, if_neg (Ne.symm n2)]
        exact hfar s n0 n1 n2 n3 n4 n5
      · intro hj
        rw [getD_put_ne (i := 2) (j := 0) (by decide)] at hj
        rw [hg, if_neg (by first | assumption | exact Ne.symm (by assumption))]
        exact k0 hj
      · intro hj
        rw [getD_put_ne (i := 2) (j := 1) (by decide)] at hj
        rw [hg, if_neg (by first | assumption | exact Ne.symm (by assumption))]
        exact k1 hj
      · intro _
        rw [hg, if_pos rfl]
      · intro hj
        rw [getD_put_ne (i := 2) (j := 3) (by decide)] at hj
        rw [hg, if_neg (by first | assumption | exact Ne.symm (by assumption))]
        exact k3 hj
      · intro hj
        rw [getD_put_ne (i := 2) (j := 4) (by decide)] at hj
        rw [hg, if_neg (by first | assumption | exact Ne.symm (by assumption))]
        exact kX hj
      · intro hj
        rw [getD_put_ne (i := 2) (j := 5) (by decide)] at hj
        rw [hg, if_neg (by first | assumption | exact Ne.symm (by assumption))]
        exact kY hj
      · rw [getD_put_ne (i := 2) (j := 4) (by decide), getD_put_ne (i := 2) (j := 6) (by decide), getD_put_ne (i := 2) (j := 5) (by decide), getD_put_ne (i := 2) (j := 7) (by decide)]
        exact hMem
    · refine wpOp_plain q3 g3 (owp_call hf p3 (eval_of_get (k2 (ready_after q3 e32 hr))) (hcB w') fun w'' hb => hK _ _ ?_)
      rw [d3]
      have hg := put_get (a := a') (s := rB) (v := .agg uB) (by rw [htm]; assumption)
      refine ⟨by simp [hs], hdf, by simpa [Act.put] using htm, ?_, ?_, ?_, ?_, ?_, fun hj => by rw [getD_put_ne (i := 3) (j := 4) (by decide)] at hj; rw [getD_put_ne (i := 3) (j := 6) (by decide)]; exact hst4 hj, fun hj => by rw [getD_put_ne (i := 3) (j := 5) (by decide)] at hj; rw [getD_put_ne (i := 3) (j := 7) (by decide)]; exact hst5 hj, gX, gY, ?_, ?_, ?_⟩
      · intro s n0 n1 n2 n3 n4 n5
        rw [hg, if_neg (Ne.symm n3)]
        exact hfar s n0 n1 n2 n3 n4 n5
      · intro hj
        rw [getD_put_ne (i := 3) (j := 0) (by decide)] at hj
        rw [hg, if_neg (by first | assumption | exact Ne.symm (by assumption))]
        exact k0 hj
      · intro hj
        rw [getD_put_ne (i := 3) (j := 1) (by decide)] at hj
        rw [hg, if_neg (by first | assumption | exact Ne.symm (by assumption))]
        exact k1 hj
      · intro hj
        rw [getD_put_ne (i := 3) (j := 2) (by decide)] at hj
        rw [hg, if_neg (by first | assumption | exact Ne.symm (by assumption))]
        exact k2 hj
      · intro _
        rw [hg, if_pos rfl]
      · intro hj
        rw [getD_put_ne (i := 3) (j := 4) (by decide)] at hj
        rw [hg, if_neg (by first | assumption | exact Ne.symm (by assumption))]
        exact kX hj
      · intro hj
        rw [getD_put_ne (i := 3) (j := 5) (by decide)] at hj
        rw [hg, if_neg (by first | assumption | exact Ne.symm (by assumption))]
        exact kY hj
      · rw [getD_put_ne (i := 3) (j := 4) (by decide), getD_put_ne (i := 3) (j := 6) (by decide), getD_put_ne (i := 3) (j := 5) (by decide), getD_put_ne (i := 3) (j := 7) (by decide)]
        exact hMem.step hb
    · refine wpOp_plain q4 g4 (owp_zero p4 hZ (hK _ _ ?_))
      rw [d4]
      have hg := put_get (a := a') (s := pX) (v := .pointer (some ⟨w'.heap.size, 0, none⟩)) (by rw [htm]; assumption)
      refine ⟨by simp [hs], hdf, by simpa [Act.put] using htm, ?_, ?_, ?_, ?_, ?_, fun hj => absurd hj (by rw [getD_put_same (i := 4) (by rw [hs]; decide)]; simp), fun hj => by rw [getD_put_ne (i := 4) (j := 5) (by decide)] at hj; rw [getD_put_ne (i := 4) (j := 7) (by decide)]; exact hst5 hj, w'.heap.size, gY, ?_, ?_, ?_⟩
      · intro s n0 n1 n2 n3 n4 n5
        rw [hg, if_neg (Ne.symm n4)]
        exact hfar s n0 n1 n2 n3 n4 n5
      · intro hj
        rw [getD_put_ne (i := 4) (j := 0) (by decide)] at hj
        rw [hg, if_neg (by first | assumption | exact Ne.symm (by assumption))]
        exact k0 hj
      · intro hj
        rw [getD_put_ne (i := 4) (j := 1) (by decide)] at hj
        rw [hg, if_neg (by first | assumption | exact Ne.symm (by assumption))]
        exact k1 hj
      · intro hj
        rw [getD_put_ne (i := 4) (j := 2) (by decide)] at hj
        rw [hg, if_neg (by first | assumption | exact Ne.symm (by assumption))]
        exact k2 hj
      · intro hj
        rw [getD_put_ne (i := 4) (j := 3) (by decide)] at hj
        rw [hg, if_neg (by first | assumption | exact Ne.symm (by assumption))]
        exact k3 hj
      · intro _
        rw [hg, if_pos rfl]
      · intro hj
        rw [getD_put_ne (i := 4) (j := 5) (by decide)] at hj
        rw [hg, if_neg (by first | assumption | exact Ne.symm (by assumption))]
        exact kY hj
      · have hno : listed.getD 6 false = false := hst4 hun
        have hZm : Z.size = m := by obtain ⟨_, _, _, hz⟩ := hZ.ex; exact hz
        rw [getD_put_same (i := 4) (by rw [hs]; decide), getD_put_ne (i := 4) (j := 6) (by decide), getD_put_ne (i := 4) (j := 5) (by decide), getD_put_ne (i := 4) (j := 7) (by decide), hno]
        rw [hun] at hMem
        simp only [if_true, Bool.false_eq_true, if_false, List.nil_append, List.cons_append] at hMem ⊢
        exact hMem.alloc _ _ hZm
    · refine wpOp_plain q5 g5 (owp_zero p5 hZ (hK _ _ ?_))
      rw [d5]
      have hg := put_get (a := a') (s := pY) (v := .pointer (some ⟨w'.heap.size, 0, none⟩)) (by rw [htm]; assumption)
      refine ⟨by simp [hs], hdf, by simpa [Act.put] using htm, ?_, ?_, ?_, ?_, ?_, fun hj => by rw [getD_put_ne (i := 5) (j := 4) (by decide)] at hj; rw [getD_put_ne (i := 5) (j := 6) (by decide)]; exact hst4 hj, fun hj => absurd hj (by rw [getD_put_same (i := 5) (by rw [hs]; decide)]; simp), gX, w'.heap.size, ?_, ?_, ?_⟩
      · intro s n0 n1 n2 n3 n4 n5
        rw [hg, if_neg (Ne.symm n5)]
        exact hfar s n0 n1 n2 n3 n4 n5
      · intro hj
        rw [getD_put_ne (i := 5) (j := 0) (by decide)] at hj
        rw [hg, if_neg (by first | assumption | exact Ne.symm (by assumption))]
        exact k0 hj
      · intro hj
        rw [getD_put_ne (i := 5) (j := 1) (by decide)] at hj
        rw [hg, if_neg (by first | assumption | exact Ne.symm (by assumption))]
        exact k1 hj
      · intro hj
        rw [getD_put_ne (i := 5) (j := 2) (by decide)] at hj
        rw [hg, if_neg (by first | assumption | exact Ne.symm (by assumption))]
        exact k2 hj
      · intro hj
        rw [getD_put_ne (i := 5) (j := 3) (by decide)] at hj
        rw [hg, if_neg (by first | assumption | exact Ne.symm (by assumption))]
        exact k3 hj
      · intro hj
        rw [getD_put_ne (i := 5) (j := 4) (by decide)] at hj
        rw [hg, if_neg (by first | assumption | exact Ne.symm (by assumption))]
        exact kX hj
      · intro _
        rw [hg, if_pos rfl]
      · have hno : listed.getD 7 false = false := hst5 hun
        have hZm : Z.size = m := by obtain ⟨_, _, _, hz⟩ := hZ.ex; exact hz
        rw [getD_put_ne (i := 5) (j := 4) (by decide), getD_put_ne (i := 5) (j := 6) (by decide), getD_put_same (i := 5) (by rw [hs]; decide), getD_put_ne (i := 5) (j := 7) (by decide), hno]
        rw [hun] at hMem
        simp only [if_true, Bool.false_eq_true, if_false, List.nil_append, List.cons_append] at hMem ⊢
        have := hMem.alloc Z U hZm
        by_cases hx : listed.getD 4 false = true
        · simp only [hx, if_true, List.cons_append, List.nil_append] at this ⊢
          exact this.swap
        · simp only [hx] at this ⊢
          exact this
    · have l4 := ready_after q6 e64 hr
      have l1 := ready_after q6 e61 hr
      rw [if_pos l4, hun, if_neg (show ¬ (false = true) by decide)] at hMem
      simp only [List.cons_append, List.nil_append] at hMem
      refine wpOp_plain q6 g6 (owp_store hMem p6 (eval_of_get (kX l4)) (eval_of_get (k1 l1)) (UpdL.head _ _ _ _ _) hU huA h1A d6 fun w'' hM2 => hK _ _ ?_)
      refine ⟨by simp [hs], hdf, htm, hfar, fun hj => k0 (by rwa [getD_put_ne (i := 6) (j := 0) (by decide)] at hj), fun hj => k1 (by rwa [getD_put_ne (i := 6) (j := 1) (by decide)] at hj), fun hj => k2 (by rwa [getD_put_ne (i := 6) (j := 2) (by decide)] at hj), fun hj => k3 (by rwa [getD_put_ne (i := 6) (j := 3) (by decide)] at hj), fun hj => absurd hj (by rw [getD_put_ne (i := 6) (j := 4) (by decide), l4]; simp), fun hj => by rw [getD_put_ne (i := 6) (j := 5) (by decide)] at hj; rw [getD_put_ne (i := 6) (j := 7) (by decide)]; exact hst5 hj, gX, gY, fun hj => kX (by rwa [getD_put_ne (i := 6) (j := 4) (by decide)] at hj), fun hj => kY (by rwa [getD_put_ne (i := 6) (j := 5) (by decide)] at hj), ?_⟩
      rw [getD_put_ne (i := 6) (j := 4) (by decide), getD_put_same (i := 6) (by rw [hs]; decide), getD_put_ne (i := 6) (j := 5) (by decide), getD_put_ne (i := 6) (j := 7) (by decide), if_pos l4, if_pos rfl]
      exact hM2
    · have l4 := ready_after q7 e75 hr
      have l1 := ready_after q7 e73 hr
      rw [if_pos l4, hun, if_neg (show ¬ (false = true) by decide)] at hMem
      simp only [List.cons_append, List.nil_append] at hMem
      refine wpOp_plain q7 g7 (owp_store hMem p7 (eval_of_get (kY l4)) (eval_of_get (k3 l1)) (F := fun cs' => (if listed.getD 4 false = true then [⟨gX, U, m, if listed.getD 6 false = true then uA else Z⟩] else []) ++ (⟨gY, U, m, cs'⟩ :: L)) ⟨_, L, rfl, fun _ => rfl⟩ hU huB h1B d7 fun w'' hM2 => hK _ _ ?_)
      refine ⟨by simp [hs], hdf, htm, hfar, fun hj => k0 (by rwa [getD_put_ne (i := 7) (j := 0) (by decide)] at hj), fun hj => k1 (by rwa [getD_put_ne (i := 7) (j := 1) (by decide)] at hj), fun hj => k2 (by rwa [getD_put_ne (i := 7) (j := 2) (by decide)] at hj), fun hj => k3 (by rwa [getD_put_ne (i := 7) (j := 3) (by decide)] at hj), fun hj => by rw [getD_put_ne (i := 7) (j := 4) (by decide)] at hj; rw [getD_put_ne (i := 7) (j := 6) (by decide)]; exact hst4 hj, fun hj => absurd hj (by rw [getD_put_ne (i := 7) (j := 5) (by decide), l4]; simp), gX, gY, fun hj => kX (by rwa [getD_put_ne (i := 7) (j := 4) (by decide)] at hj), fun hj => kY (by rwa [getD_put_ne (i := 7) (j := 5) (by decide)] at hj), ?_⟩
      rw [getD_put_ne (i := 7) (j := 4) (by decide), getD_put_ne (i := 7) (j := 6) (by decide), getD_put_ne (i := 7) (j := 5) (by decide), getD_put_same (i := 7) (by rw [hs]; decide), if_pos l4, if_pos rfl]
      exact hM2
  · intro listed a' w' hI hr
    have hall := ready_done hord (by rw [hI.size, hN]) hr
    rw [hN] at hall
    obtain ⟨hs, hdf, htm, hfar, k0, k1, k2, k3, hst4, hst5, gX, gY, kX, kY, hMem⟩ := hI
    rw [if_pos (hall 4 (by decide)), if_pos (hall 5 (by decide)), if_pos (hall 6 (by decide)), if_pos (hall 7 (by decide))] at hMem
    have := h gX gY w' (by simpa using hMem)
    refine (congrArg (fun x => Q .normal x w') ?_).mp this
    have ht : ((((((a.put (some sA) (.agg cA)).put (some rA) (.agg uA)).put (some sB) (.agg cB)).put (some rB) (.agg uB)).put (some pX) (.pointer (some ⟨gX, 0, none⟩))).put (some pY) (.pointer (some ⟨gY, 0, none⟩))).tmps = a'.tmps := by
      apply Array.ext_getElem?
      intro s
      rw [put_get (by simpa [Act.put] using zpY), put_get (by simpa [Act.put] using zpX), put_get (by simpa [Act.put] using zrB), put_get (by simpa [Act.put] using zsB), put_get (by simpa [Act.put] using zrA), put_get zsA]
      by_cases c5 : pY = s
      · rw [if_pos c5, ← c5]; exact (kY (hall 5 (by decide))).symm
      by_cases c4 : pX = s
      · rw [if_neg c5, if_pos c4, ← c4]; exact (kX (hall 4 (by decide))).symm
      by_cases c3 : rB = s
      · rw [if_neg c5, if_neg c4, if_pos c3, ← c3]; exact (k3 (hall 3 (by decide))).symm
      by_cases c2 : sB = s
      · rw [if_neg c5, if_neg c4, if_neg c3, if_pos c2, ← c2]; exact (k2 (hall 2 (by decide))).symm
      by_cases c1 : rA = s
      · rw [if_neg c5, if_neg c4, if_neg c3, if_neg c2, if_pos c1, ← c1]; exact (k1 (hall 1 (by decide))).symm
      by_cases c0 : sA = s
      · rw [if_neg c5, if_neg c4, if_neg c3, if_neg c2, if_neg c1, if_pos c0, ← c0]; exact (k0 (hall 0 (by decide))).symm
      rw [if_neg c5, if_neg c4, if_neg c3, if_neg c2, if_neg c1, if_neg c0]
      exact (hfar s (Ne.symm c0) (Ne.symm c1) (Ne.symm c2) (Ne.symm c3) (Ne.symm c4) (Ne.symm c5)).symm
    have hd : ((((((a.put (some sA) (.agg cA)).put (some rA) (.agg uA)).put (some sB) (.agg cB)).put (some rB) (.agg uB)).put (some pX) (.pointer (some ⟨gX, 0, none⟩))).put (some pY) (.pointer (some ⟨gY, 0, none⟩))).defers = a'.defers := by
      rw [put_defers, put_defers, put_defers, put_defers, put_defers, put_defers, hdf]
    exact act_ext ht hd
end
end Go.Bul.Hp
namespace Go.Bul.Hp
open Go Go.RowKit
section
variable {P : Program} {ops : Array Oper} {Q : Exit → Act → World → Prop} {G : List Nat} {w0 w w' : World} {L L' : List Ent} {R : List OwnR}
/-- Blocks that were made beside all that was known. -/
theorem Mem.frame (h : Mem G w0 L R w) (k : Mem [] w L' [] w') : Mem G w0 (L' ++ L) R w' := by
  have h1 := h.step k.below
  have hge : ∀ b ∈ L', w.heap.size ≤ b.g := fun b hb => by
    rcases (k.at_ b hb).1 with h | h
    · exact h
    · cases h
  refine ⟨h1.old, ?_, ?_, h1.rows, ?_, h1.rne⟩
  · intro b hb
    rcases List.mem_append.1 hb with hb | hb
    · exact ⟨.inl (Nat.le_trans h.le (hge b hb)), (k.at_ b hb).2⟩
    · exact h1.at_ b hb
  · rw [List.pairwise_append]
    refine ⟨k.ne, h.ne, fun b hb c hc => ?_⟩
    have := hge b hb
    have := h.lt hc
    omega
  · intro r hr b hb
    rcases List.mem_append.1 hb with hb | hb
    · intro he
      have h2 := (World.ownsRow.lt (h.rows r hr) _ he).2
      have := hge b hb
      omega
    · exact h.apart r hr b hb
theorem wp_region_allHB (hM : Mem G w0 L R w) {id : Nat} {a : Act} {l : List Oper} (hm : P.follows .mixedOrders = true)
    (h : ∀ wd, Mem G w0 L R wd → wpAllH P l.toArray Q (fun w' => Below wd.heap.size wd w') (Array.replicate l.toArray.size false) a wd) : (Code.region id l.toArray true).wp P Q a w :=
  wp_region_allH _ hm (h _ hM.drew)
theorem wp_region_allB (hM : Mem G w0 L R w) {id : Nat} {a : Act} {l : List Oper} (k : Nat) (hm : P.follows .mixedOrders = true)
    (h : ∀ wd, Mem G w0 L R wd → wpAllT P l.toArray Q (fun w' => Below wd.heap.size wd w') k (Array.replicate l.toArray.size false) a wd) : (Code.region id l.toArray true).wp P Q a w :=
  wp_region_allT _ k hm (h _ hM.drew)
theorem any_invH {md : Region.Mode} {S : World → Prop} (Inv : Array Bool → Act → World → Prop) (hS : ∀ listed a w, Inv listed a w → S w)
    (hstep : ∀ listed a w i, Inv listed a w → i ∈ Region.ready md ops listed → ∀ K : Act → World → Prop, (∀ a' w', Inv (listed.setIfInBounds i true) a' w' → K a' w') → wpOp P ops Q i K a w)
    (hend : ∀ listed a w, Inv listed a w → Region.ready md ops listed = [] → Q .normal a w) :
    ∀ (fuel : Nat) (listed : Array Bool) (a : Act) (w : World), listed.toList.countP (fun b => !b) ≤ fuel → Inv listed a w → wpAnyH P md ops Q S fuel listed a w
  | 0, listed, a, w, hc, h => by
    have hr : Region.ready md ops listed = [] := by
      cases hq : Region.ready md ops listed with
      | nil => rfl
      | cons i r =>
        have hi : i ∈ Region.ready md ops listed := by rw [hq]; simp
        have h1 := (mem_ready.1 hi).1
        have := count_set listed.toList i (by simpa [List.getD, Array.getD_eq_getD_getElem?] using h1)
        omega
    exact ⟨hr, hend _ _ _ h hr⟩
  | f + 1, listed, a, w, hc, h => ⟨hend _ _ _ h, fun i hi => hstep listed a w i h hi _ fun a' w' h' => ⟨hS _ _ _ h', any_invH Inv hS hstep hend f _ a' w' (by
      have h1 := (mem_ready.1 hi).1
      have := count_set listed.toList i (by simpa [List.getD, Array.getD_eq_getD_getElem?] using h1)
      simp only [Array.toList_setIfInBounds]
      omega) h'⟩⟩
/-! ### Calls, two new variables, a store into each -/
/-- A call that stands in front. -/
structure Front where
  i : Nat
  s : Nat
  f : FuncId
  args : Array Operand
  xs : Array Value
  v : Value
def farOp (D : List Nat) : Operand → Bool
  | .tmp s => !D.contains s
  | .const _ => true
  | _ => false
structure FrontOk (P : Program) (l : List Oper) (a : Act) (wd : World) (D : List Nat) (t : Front) : Prop where
  op : ∃ o ts, l[t.i]? = some o ∧ o.guard = none ∧ o.dst = some t.s ∧ o.op = .call { callee := .value (.func t.f), args := t.args, argTypes := ts }
  far : t.args.all (farOp D) = true
  ev : t.args.map a.eval = t.xs
  ent : ∀ args w, (callFunc t.f args).run P w = .ok (.enter t.f args) w
  run : ∀ w', Below wd.heap.size wd w' → Calls P t.f t.xs w' fun e w'' => e = .returned t.v ∧ Below w'.heap.size w' w''
theorem owp_calls {o : Oper} {a' : Act} {w' : World} {K : Act → World → Prop} {f : FuncId} {args : Array Operand} {ts : Array TypeId} (hf : ∀ args w, (callFunc f args).run P w = .ok (.enter f args) w) (ho : o.op = .call { callee := .value (.func f), args := args, argTypes := ts }) {xs : Array Value} {u : Value} (hx : args.map a'.eval = xs)
    (hc : Calls P f xs w' fun e w'' => e = .returned u ∧ Below w'.heap.size w' w'') (h : ∀ w'', Below w'.heap.size w' w'' → K (a'.put o.dst u) w'') : o.wp P a' w' K Q := by
  have hr : (execOp a'.eval o).run P w' = .ok (.enter f xs) w' := by
    unfold execOp
    have e : a'.eval (.func f) = .func (.func f) #[] #[] := rfl
    simp only [ho, resolve, e, Deferred.ofValue, Sem.run_bind, Sem.run_pure, Result.andThen_ok, hx, invoke, Array.append_empty, Array.empty_append, hf]
  unfold Oper.wp
  rw [hr]
  refine hc.mono ?_
  rintro e w'' ⟨rfl, hb⟩
  exact h w'' hb
theorem far_eval {D : List Nat} {a a' : Act} (h : ∀ s, s ∉ D → a'.tmps[s]? = a.tmps[s]?) {args : Array Operand} (hf : args.all (farOp D) = true) : args.map a'.eval = args.map a.eval := by
  apply Array.map_congr_left
  intro x hx
  have := Array.all_eq_true'.1 hf x hx
  cases x with
  | tmp s =>
    have hs : s ∉ D := by simpa [farOp] using this
    simp only [Act.eval, Array.getD_eq_getD_getElem?, h s hs]
  | const v => rfl
  | global g => cases this
  | func f => cases this
/-- The state between. -/
structure Flo (wd : World) (a : Act) (listed0 : Array Bool) (F : List Front) (D : List Nat) (jX jY kX kY pX pY : Nat) (UX UY : TypeId) (mX mY : Nat) (ZX ZY uX uY : Array Value) (listed : Array Bool) (a' : Act) (w' : World) : Prop where
  size : listed.size = listed0.size
  lo : ∀ i, listed0.getD i false = true → listed.getD i false = true
  defers : a'.defers = a.defers
  tmps : a'.tmps.size = a.tmps.size
  far : ∀ s, s ∉ D → a'.tmps[s]? = a.tmps[s]?
  done : ∀ t ∈ F, listed.getD t.i false = true → a'.tmps[t.s]? = some t.v
  stX : listed.getD jX false = false → listed.getD kX false = false
  stY : listed.getD jY false = false → listed.getD kY false = false
  mem : ∃ gX gY, (listed.getD jX false = true → a'.tmps[pX]? = some (.pointer (some ⟨gX, 0, none⟩))) ∧ (listed.getD jY false = true → a'.tmps[pY]? = some (.pointer (some ⟨gY, 0, none⟩))) ∧
    Mem [] wd ((if listed.getD jX false = true then [⟨gX, UX, mX, if listed.getD kX false = true then uX else ZX⟩] else []) ++ ((if listed.getD jY false = true then [⟨gY, UY, mY, if listed.getD kY false = true then uY else ZY⟩] else []) ++ [])) [] w'
theorem foldl_put_ne {F : List Front} {s : Nat} : ∀ {a : Act}, s ∉ F.map (·.s) → (F.foldl (fun a t => a.put (some t.s) t.v) a).tmps[s]? = a.tmps[s]? := by
  induction F with
  | nil => intro a _; rfl
  | cons t F ih =>
    intro a h
    simp only [List.map_cons, List.mem_cons, not_or] at h
    rw [List.foldl_cons, ih h.2]
    simp only [Act.put, Array.getElem?_setIfInBounds, Ne.symm h.1, if_false]
theorem foldl_put_size {F : List Front} : ∀ {a : Act}, (F.foldl (fun a t => a.put (some t.s) t.v) a).tmps.size = a.tmps.size := by
  induction F with
  | nil => intro a; rfl
  | cons t F ih => intro a; rw [List.foldl_cons, ih]; simp [Act.put]
theorem foldl_put_defers {F : List Front} : ∀ {a : Act}, (F.foldl (fun a t => a.put (some t.s) t.v) a).defers = a.defers := by
  induction F with
  | nil => intro a; rfl
  | cons t F ih => intro a; rw [List.foldl_cons, ih, put_defers]
theorem foldl_put_get {F : List Front} : ∀ {a : Act}, (F.map (·.s)).Nodup → (∀ t ∈ F, t.s < a.tmps.size) → ∀ t ∈ F, (F.foldl (fun a t => a.put (some t.s) t.v) a).tmps[t.s]? = some t.v := by
  induction F with
  | nil => intro a _ _ t ht; cases ht
  | cons u F ih =>
    intro a hn hs t ht
    simp only [List.map_cons, List.nodup_cons] at hn
    rw [List.foldl_cons]
    rcases List.mem_cons.1 ht with rfl | ht
    · rw [foldl_put_ne hn.1, put_get (hs t (List.mem_cons_self ..)), if_pos rfl]
    · exact ih hn.2 (fun t ht => by simpa [Act.put] using hs t (List.mem_cons_of_mem _ ht)) t ht
theorem idx_inj {F : List Front} (hn : (F.map (·.i)).Nodup) {t u : Front} (ht : t ∈ F) (hu : u ∈ F) (h : t.i = u.i) : t = u := by
  induction F with
  | nil => cases ht
  | cons x F ih =>
    simp only [List.map_cons, List.nodup_cons] at hn
    rcases List.mem_cons.1 ht with h1 | h1 <;> rcases List.mem_cons.1 hu with h2 | h2
    · rw [h1, h2]
    · subst h1
      exact absurd (h ▸ List.mem_map_of_mem h2) hn.1
    · subst h2
      exact absurd (h ▸ List.mem_map_of_mem h1) hn.1
    · exact ih hn.2 h1 h2
theorem slot_inj {F : List Front} (hn : (F.map (·.s)).Nodup) {t u : Front} (ht : t ∈ F) (hu : u ∈ F) (h : t.s = u.s) : t = u := by
  induction F with
  | nil => cases ht
  | cons x F ih =>
    simp only [List.map_cons, List.nodup_cons] at hn
    rcases List.mem_cons.1 ht with h1 | h1 <;> rcases List.mem_cons.1 hu with h2 | h2
    · rw [h1, h2]
    · subst h1
      exact absurd (h ▸ List.mem_map_of_mem h2) hn.1
    · subst h2
      exact absurd (h ▸ List.mem_map_of_mem h1) hn.1
    · exact ih hn.2 h1 h2
set_option maxHeartbeats 1000000 in
theorem wpAllH_floats {l : List Oper} {wd : World} {listed0 : Array Bool} {a : Act} {w : World} (hb : Below wd.heap.size wd w) (F : List Front) (jX jY kX kY pX pY rX rY : Nat) {UX UY : TypeId} {mX mY : Nat} {ZX ZY uX uY : Array Value} {oX oY sX sY : Oper}
    (hF : ∀ t ∈ F, FrontOk P l a wd (F.map (·.s) ++ [pX, pY]) t)
    (qX : l[jX]? = some oX) (hX : oX.guard = none ∧ oX.dst = some pX ∧ oX.op = .alloc UX) (qY : l[jY]? = some oY) (hY : oY.guard = none ∧ oY.dst = some pY ∧ oY.op = .alloc UY)
    (qS : l[kX]? = some sX) (hSX : sX.guard = none ∧ sX.dst = none ∧ sX.op = .store UX (.tmp pX) (.tmp rX)) (qT : l[kY]? = some sY) (hSY : sY.guard = none ∧ sY.dst = none ∧ sY.op = .store UY (.tmp pY) (.tmp rY))
    (hord : (List.range l.toArray.size).all (fun i => ((l.toArray[i]?).map fun o => o.after.all fun e => !Region.binds .any e || decide (e.on < i)).getD false) = true)
    (hrest : (List.range l.length).all (fun i => listed0.getD i false || (F.map (·.i) ++ [jX, jY, kX, kY]).contains i) = true)
    (hun : (F.map (·.i) ++ [jX, jY, kX, kY]).all (fun i => !listed0.getD i true) = true) (hsize : listed0.size = l.length)
    (hidx : (F.map (·.i) ++ [jX, jY, kX, kY]).Nodup) (hsl : (F.map (·.s) ++ [pX, pY]).Nodup) (hsz : ∀ s ∈ F.map (·.s) ++ [pX, pY], s < a.tmps.size)
    (dX : (sX.after.any fun e => Region.binds .any e && e.on == jX) = true) (dY : (sY.after.any fun e => Region.binds .any e && e.on == jY) = true)
    (vX : (∃ t ∈ F, t.s = rX ∧ t.v = .agg uX ∧ (sX.after.any fun e => Region.binds .any e && e.on == t.i) = true) ∨ (rX ∉ F.map (·.s) ++ [pX, pY] ∧ a.tmps[rX]? = some (.agg uX)))
    (vY : (∃ t ∈ F, t.s = rY ∧ t.v = .agg uY ∧ (sY.after.any fun e => Region.binds .any e && e.on == t.i) = true) ∨ (rY ∉ F.map (·.s) ++ [pX, pY] ∧ a.tmps[rY]? = some (.agg uY)))
    (hZX : ZeroTy P UX mX ZX) (hZY : ZeroTy P UY mY ZY) (hUX : RowTy P UX mX) (hUY : RowTy P UY mY) (huX : uX.size = mX) (huY : uY.size = mY) (h1X : ∀ v ∈ uX.toList, v.oneCell' = true) (h1Y : ∀ v ∈ uY.toList, v.oneCell' = true)
    (h : ∀ gX gY w', Mem [] wd [⟨gX, UX, mX, uX⟩, ⟨gY, UY, mY, uY⟩] [] w' →
      Q .normal (((F.foldl (fun a t => a.put (some t.s) t.v) a).put (some pX) (.pointer (some ⟨gX, 0, none⟩))).put (some pY) (.pointer (some ⟨gY, 0, none⟩))) w') :
    wpAllH P l.toArray Q (fun w' => Below wd.heap.size wd w') listed0 a w := by
  have hne : ∀ i j, i ∈ F.map (·.i) ++ [jX, jY, kX, kY] → j ∈ F.map (·.i) ++ [jX, jY, kX, kY] → True := fun _ _ _ _ => trivial
  have hidx' := hidx
  rw [List.nodup_append] at hidx'
  obtain ⟨nF, nT, nX⟩ := hidx'
  simp only [List.nodup_cons, List.mem_cons, List.not_mem_nil, or_false, not_or, not_false_eq_true, List.nodup_nil, and_true] at nT
  obtain ⟨⟨nXY, nXS, nXT⟩, ⟨nYS, nYT⟩, nST⟩ := nT
  have fX : ∀ t ∈ F, t.i ≠ jX := fun t ht => nX _ (List.mem_map_of_mem ht) _ (by simp)
  have fY : ∀ t ∈ F, t.i ≠ jY := fun t ht => nX _ (List.mem_map_of_mem ht) _ (by simp)
  have fS : ∀ t ∈ F, t.i ≠ kX := fun t ht => nX _ (List.mem_map_of_mem ht) _ (by simp)
  have fT : ∀ t ∈ F, t.i ≠ kY := fun t ht => nX _ (List.mem_map_of_mem ht) _ (by simp)
  have hsl' := hsl
  rw [List.nodup_append] at hsl'
  obtain ⟨mF, mT, mX'⟩ := hsl'
  simp only [List.nodup_cons, List.mem_cons, List.not_mem_nil, or_false, not_false_eq_true, List.nodup_nil, and_true] at mT
  have sX' : ∀ t ∈ F, t.s ≠ pX := fun t ht => mX' _ (List.mem_map_of_mem ht) _ (by simp)
  have sY' : ∀ t ∈ F, t.s ≠ pY := fun t ht => mX' _ (List.mem_map_of_mem ht) _ (by simp)
  have zX := hsz pX (by simp)
  have zY := hsz pY (by simp)
  have zF : ∀ t ∈ F, t.s < a.tmps.size := fun t ht => hsz _ (List.mem_append_left _ (List.mem_map_of_mem ht))
  have hno : ∀ i ∈ F.map (·.i) ++ [jX, jY, kX, kY], listed0.getD i false = false := fun i hi => by
    have := List.all_eq_true.1 hun i hi
    simp only [Bool.not_eq_true', Array.getD_eq_getD_getElem?] at this ⊢
    cases hq : listed0[i]? with
    | none => rw [hq] at this; cases this
    | some b => rw [hq] at this; simpa using this
  intro fuel hfuel
  refine any_invH (Flo wd a listed0 F (F.map (·.s) ++ [pX, pY]) jX jY kX kY pX pY UX UY mX mY ZX ZY uX uY) ?_ ?_ ?_ fuel listed0 a w hfuel ?_
  · intro listed a' w' hI
    obtain ⟨_, _, _, _, hM⟩ := hI.mem
    exact hM.below
  · intro listed a' w' i hI hr K hK
    have hwd : Below wd.heap.size wd w' := by
      obtain ⟨_, _, _, _, hM⟩ := hI.mem
      exact hM.below
    obtain ⟨hs, hlo, hdf, htm, hfar, hdn, hst4, hst5, gX, gY, kX', kY', hMem⟩ := hI
    have hlt : i < l.length := by
      obtain ⟨_, o, ho, _⟩ := mem_ready.1 hr
      have := (Array.getElem?_eq_some_iff.1 ho).1
      simpa using this
    have hls : i < listed.size := by omega
    have hun1 : listed.getD i false = false := by
      have := (mem_ready.1 hr).1
      simpa [Array.getD, hls] using this
    have hmem : i ∈ F.map (·.i) ++ [jX, jY, kX, kY] := by
      have := List.all_eq_true.1 hrest i (List.mem_range.2 hlt)
      rcases Bool.or_eq_true_iff.1 this with h1 | h1
      · rw [hlo i h1] at hun1
        cases hun1
      · simpa using h1
    have hlo' : ∀ j, listed0.getD j false = true → (listed.setIfInBounds i true).getD j false = true := fun j hj => (getD_put_true hls j).2 (.inr (hlo j hj))
    simp only [List.mem_append, List.mem_map, List.mem_cons, List.not_mem_nil, or_false] at hmem
    rcases hmem with ⟨t, ht, rfl⟩ | rfl | rfl | rfl | rfl
    · obtain ⟨⟨o, ts, ho, hog, hod, hop⟩, far, ev, ent, run⟩ := hF t ht
      refine wpOp_plain (by simpa using ho) hog (owp_calls ent hop ((far_eval hfar far).trans ev) (run w' hwd) fun w'' hb' => hK _ _ ?_)
      rw [hod]
      have hg := put_get (a := a') (s := t.s) (v := t.v) (by rw [htm]; exact zF t ht)
      refine ⟨by simp [hs], hlo', hdf, by simpa [Act.put] using htm, ?_, ?_, fun hj => by rw [getD_put_ne (fX t ht)] at hj; rw [getD_put_ne (fS t ht)]; exact hst4 hj, fun hj => by rw [getD_put_ne (fY t ht)] at hj; rw [getD_put_ne (fT t ht)]; exact hst5 hj, gX, gY, ?_, ?_, ?_⟩
      · intro s hsD
        have : t.s ≠ s := fun h => hsD (h ▸ List.mem_append_left _ (List.mem_map_of_mem ht))
        rw [hg, if_neg this]
        exact hfar s hsD
      · intro u hu hj
        by_cases he : u = t
        · subst he
          rw [hg, if_pos rfl]
        · have h1 : t.i ≠ u.i := fun h => he (idx_inj nF hu ht h.symm)
          have h2 : t.s ≠ u.s := fun h => he (slot_inj mF hu ht h.symm)
          rw [getD_put_ne h1] at hj
          rw [hg, if_neg h2]
          exact hdn u hu hj
      · intro hj
        rw [getD_put_ne (fX t ht)] at hj
        rw [hg, if_neg (sX' t ht)]
        exact kX' hj
      · intro hj
        rw [getD_put_ne (fY t ht)] at hj
        rw [hg, if_neg (sY' t ht)]
        exact kY' hj
      · rw [getD_put_ne (fX t ht), getD_put_ne (fY t ht), getD_put_ne (fS t ht), getD_put_ne (fT t ht)]
        exact hMem.step hb'
    · refine wpOp_plain (by simpa using qX) hX.1 (owp_zero hX.2.2 hZX (hK _ _ ?_))
      rw [hX.2.1]
      have hg := put_get (a := a') (s := pX) (v := .pointer (some ⟨w'.heap.size, 0, none⟩)) (by rw [htm]; exact zX)
      refine ⟨by simp [hs], hlo', hdf, by simpa [Act.put] using htm, ?_, ?_, fun hj => absurd hj (by rw [getD_put_same hls]; simp), fun hj => by rw [getD_put_ne nXY] at hj; rw [getD_put_ne nXT]; exact hst5 hj, w'.heap.size, gY, ?_, ?_, ?_⟩
      · intro s hsD
        have : pX ≠ s := fun h => hsD (h ▸ by simp)
        rw [hg, if_neg this]
        exact hfar s hsD
      · intro u hu hj
        rw [getD_put_ne (Ne.symm (fX u hu))] at hj
        rw [hg, if_neg (Ne.symm (sX' u hu))]
        exact hdn u hu hj
      · intro _
        rw [hg, if_pos rfl]
      · intro hj
        rw [getD_put_ne nXY] at hj
        rw [hg, if_neg mT]
        exact kY' hj
      · have hno2 : listed.getD kX false = false := hst4 hun1
        have hZm : ZX.size = mX := by obtain ⟨_, _, _, hz⟩ := hZX.ex; exact hz
        rw [getD_put_same hls, getD_put_ne nXS, getD_put_ne nXY, getD_put_ne nXT, hno2]
        rw [hun1] at hMem
        simp only [if_true, Bool.false_eq_true, if_false, List.nil_append, List.cons_append] at hMem ⊢
        exact hMem.alloc _ _ hZm
    · refine wpOp_plain (by simpa using qY) hY.1 (owp_zero hY.2.2 hZY (hK _ _ ?_))
      rw [hY.2.1]
      have hg := put_get (a := a') (s := pY) (v := .pointer (some ⟨w'.heap.size, 0, none⟩)) (by rw [htm]; exact zY)
      refine ⟨by simp [hs], hlo', hdf, by simpa [Act.put] using htm, ?_, ?_, fun hj => by rw [getD_put_ne (Ne.symm nXY)] at hj; rw [getD_put_ne nYS]; exact hst4 hj, fun hj => absurd hj (by rw [getD_put_same hls]; simp), gX, w'.heap.size, ?_, ?_, ?_⟩
      · intro s hsD
        have : pY ≠ s := fun h => hsD (h ▸ by simp)
        rw [hg, if_neg this]
        exact hfar s hsD
      · intro u hu hj
        rw [getD_put_ne (Ne.symm (fY u hu))] at hj
        rw [hg, if_neg (Ne.symm (sY' u hu))]
        exact hdn u hu hj
      · intro hj
        rw [getD_put_ne (Ne.symm nXY)] at hj
        rw [hg, if_neg (Ne.symm mT)]
        exact kX' hj
      · intro _
        rw [hg, if_pos rfl]
      · have hno2 : listed.getD kY false = false := hst5 hun1
        have hZm : ZY.size = mY := by obtain ⟨_, _, _, hz⟩ := hZY.ex; exact hz
        rw [getD_put_ne (Ne.symm nXY), getD_put_ne nYS, getD_put_same hls, getD_put_ne nYT, hno2]
        rw [hun1] at hMem
        simp only [if_true, Bool.false_eq_true, if_false, List.nil_append, List.cons_append] at hMem ⊢
        have := hMem.alloc ZY UY hZm
        by_cases hx : listed.getD jX false = true
        · simp only [hx, if_true, List.cons_append, List.nil_append] at this ⊢
          exact this.swap
        · simp only [hx] at this ⊢
          exact this
    · have l4 := ready_after (by simpa using qS) dX hr
      have hv : a'.tmps[rX]? = some (.agg uX) := by
        rcases vX with ⟨t, ht, h1, h2, h3⟩ | ⟨h1, h2⟩
        · rw [← h1, hdn t ht (ready_after (by simpa using qS) h3 hr), h2]
        · rw [hfar rX h1, h2]
      rw [if_pos l4, hun1, if_neg (show ¬ (false = true) by decide)] at hMem
      simp only [List.cons_append, List.nil_append] at hMem
      refine wpOp_plain (by simpa using qS) hSX.1 (owp_store hMem hSX.2.2 (eval_of_get (kX' l4)) (eval_of_get hv) (UpdL.head _ _ _ _ _) hUX huX h1X hSX.2.1 fun w'' hM2 => hK _ _ ?_)
      refine ⟨by simp [hs], hlo', hdf, htm, hfar, fun u hu hj => hdn u hu (by rwa [getD_put_ne (Ne.symm (fS u hu))] at hj), fun hj => absurd hj (by rw [getD_put_ne (Ne.symm nXS), l4]; simp), fun hj => by rw [getD_put_ne (Ne.symm nYS)] at hj; rw [getD_put_ne nST]; exact hst5 hj, gX, gY, fun hj => kX' (by rwa [getD_put_ne (Ne.symm nXS)] at hj), fun hj => kY' (by rwa [getD_put_ne (Ne.symm nYS)] at hj), ?_⟩
      rw [getD_put_ne (Ne.symm nXS), getD_put_same hls, getD_put_ne (Ne.symm nYS), getD_put_ne nST, if_pos l4, if_pos rfl]
      exact hM2
    · have l4 := ready_after (by simpa using qT) dY hr
      have hv : a'.tmps[rY]? = some (.agg uY) := by
        rcases vY with ⟨t, ht, h1, h2, h3⟩ | ⟨h1, h2⟩
        · rw [← h1, hdn t ht (ready_after (by simpa using qT) h3 hr), h2]
        · rw [hfar rY h1, h2]
      rw [if_pos l4, hun1, if_neg (show ¬ (false = true) by decide)] at hMem
      simp only [List.cons_append, List.nil_append] at hMem
      refine wpOp_plain (by simpa using qT) hSY.1 (owp_store hMem hSY.2.2 (eval_of_get (kY' l4)) (eval_of_get hv) (F := fun cs' => (if listed.getD jX false = true then [⟨gX, UX, mX, if listed.getD kX false = true then uX else ZX⟩] else []) ++ (⟨gY, UY, mY, cs'⟩ :: [])) ⟨_, [], rfl, fun _ => rfl⟩ hUY huY h1Y hSY.2.1 fun w'' hM2 => hK _ _ ?_)
      refine ⟨by simp [hs], hlo', hdf, htm, hfar, fun u hu hj => hdn u hu (by rwa [getD_put_ne (Ne.symm (fT u hu))] at hj), fun hj => by rw [getD_put_ne (Ne.symm nXT)] at hj; rw [getD_put_ne (Ne.symm nST)]; exact hst4 hj, fun hj => absurd hj (by rw [getD_put_ne (Ne.symm nYT), l4]; simp), gX, gY, fun hj => kX' (by rwa [getD_put_ne (Ne.symm nXT)] at hj), fun hj => kY' (by rwa [getD_put_ne (Ne.symm nYT)] at hj), ?_⟩
      rw [getD_put_ne (Ne.symm nXT), getD_put_ne (Ne.symm nST), getD_put_ne (Ne.symm nYT), getD_put_same hls, if_pos l4, if_pos rfl]
      exact hM2
  · intro listed a' w' hI hr
    have hall := ready_done hord (by rw [hI.size, hsize]; simp) hr
    obtain ⟨hs, _, hdf, htm, hfar, hdn, _, _, gX, gY, kX', kY', hMem⟩ := hI
    have lX : jX < l.length := (List.getElem?_eq_some_iff.1 qX).1
    have lY : jY < l.length := (List.getElem?_eq_some_iff.1 qY).1
    have lS : kX < l.length := (List.getElem?_eq_some_iff.1 qS).1
    have lT : kY < l.length := (List.getElem?_eq_some_iff.1 qT).1
    rw [if_pos (hall jX (by simpa using lX)), if_pos (hall jY (by simpa using lY)), if_pos (hall kX (by simpa using lS)), if_pos (hall kY (by simpa using lT))] at hMem
    have hq := h gX gY w' (by simpa using hMem)
    refine (congrArg (fun x => Q .normal x w') ?_).mp hq
    refine act_ext ?_ (by rw [put_defers, put_defers, foldl_put_defers, hdf])
    apply Array.ext_getElem?
    intro s
    rw [put_get (by show pY < (Array.setIfInBounds _ _ _).size; rw [Array.size_setIfInBounds, foldl_put_size]; exact zY), put_get (by rw [foldl_put_size]; exact zX)]
    by_cases c5 : pY = s
    · rw [if_pos c5, ← c5]; exact (kY' (hall jY (by simpa using lY))).symm
    by_cases c4 : pX = s
    · rw [if_neg c5, if_pos c4, ← c4]; exact (kX' (hall jX (by simpa using lX))).symm
    rw [if_neg c5, if_neg c4]
    by_cases c3 : s ∈ F.map (·.s)
    · obtain ⟨t, ht, rfl⟩ := List.mem_map.1 c3
      rw [foldl_put_get mF zF t ht]
      obtain ⟨o, _, ho, _⟩ := (hF t ht).op
      have : t.i < l.length := (List.getElem?_eq_some_iff.1 ho).1
      exact (hdn t ht (hall t.i (by simpa using this))).symm
    · rw [foldl_put_ne c3]
      exact (hfar s (by simp only [List.mem_append, List.mem_cons, List.not_mem_nil, or_false, not_or]; exact ⟨c3, Ne.symm c4, Ne.symm c5⟩)).symm
  · have hz : ∀ i ∈ F.map (·.i) ++ [jX, jY, kX, kY], listed0.getD i false = true → False := fun i hi h => by rw [hno i hi] at h; cases h
    refine ⟨rfl, fun _ h => h, rfl, rfl, fun _ _ => rfl, fun t ht h => (hz _ (List.mem_append_left _ (List.mem_map_of_mem ht)) h).elim, fun _ => hno _ (by simp), fun _ => hno _ (by simp), 0, 0, fun h => (hz _ (by simp) h).elim, fun h => (hz _ (by simp) h).elim, ?_⟩
    rw [if_neg (hz jX (by simp)), if_neg (hz jY (by simp))]
    exact (Mem.start [] wd).step hb
end
end Go.Bul.Hp
namespace Go.Bul.Hp
open Go Go.RowKit
section
variable {P : Program} {ops : Array Oper} {rest : List Oper} {o : Oper} {a : Act} {Q : Exit → Act → World → Prop} {w : World}
/-- An element of an array of numbers that is a value. -/
theorem run_idx_num {T e : TypeId} {k : IntKind} {n : Nat} (hT : P.underlying T = some (.array n e)) (hE : OneTy P e) (l : List Nat) (i : Nat) (hi : i < n) (hl : l.length = n) (w : World) :
    (Instr.index T (.agg (cellsOf k l)) (.int .i64 (i : Nat))).run P w = .ok (.int k (nth l i : Nat)) w := by
  obtain ⟨d, hu, hd, hs⟩ := hE.ex
  have hc : (cellsOf k l)[i]? = some (.int k (nth l i : Nat)) := cellsOf_get k l i (by omega)
  have hlt : (0 ≤ (i : Int) ∧ (i : Int) < n) := by omega
  simp only [Instr.index, asIntOf, Sem.run_bind, Sem.run_pure, Result.andThen_ok, run_underlying hT, hlt, and_self, if_true, run_sizeOf hs, Int.toNat_natCast, part, run_isAgg_no hu hd, Bool.false_eq_true, if_false, Nat.mul_one, hc]
/-- A build whose result is known. -/
theorem yields_build (ty : TypeId) (ps : Array (Nat × Operand)) (ho : o.op = .build ty ps) (parts : Array (Nat × Value)) (hp : (ps.map fun p => (p.1, a.eval p.2)) = parts) (v : Value) (hr : (Instr.build ty parts).run P w = .ok v w) : (execOp a.eval o).run P w = .ok (.value v) w := by
  subst hp
  unfold execOp
  simp only [ho]
  have hr' : (Instr.build ty (ps.map fun (x : Nat × Operand) => match x with | (i, x) => (i, a.eval x))).run P w = .ok v w := hr
  simp only [Sem.run_bind, hr', Result.andThen_ok, Sem.run_pure]
theorem quietAt_exec {C : World → Prop} {v : Value} (h : (execOp a.eval o).run P w = .ok (.value v) w) : o.quietAt P a C w v := by
  unfold Oper.quietAt
  rw [h]
  exact ⟨rfl, rfl⟩
theorem yields_index (T : TypeId) (x y : Operand) (ho : o.op = .index T x y) (u z : Value) (hx : a.eval x = u) (hy : a.eval y = z) (v : Value) (hr : (Instr.index T u z).run P w = .ok v w) : (execOp a.eval o).run P w = .ok (.value v) w := by
  subst hx hy
  unfold execOp
  simp only [ho, Sem.run_bind, hr, Result.andThen_ok, Sem.run_pure]
end
end Go.Bul.Hp
namespace Go.Proofs.YtbbdnlcjjcmllaaDoor.Once
open Go Go.RowKit Go.Bul Go.Bul.Hp
section
variable {w w0 : World} {G : List Nat} {L : List Ent} {R : List OwnR} {o : Oper} {a : Act} {C : World → Prop} {ty : TypeId} {x : Operand} {g i n : Nat} {t : TypeId} {cs : Array Value} {v : Value} {k : IntKind} {E : List Nat}
theorem nqc (hM : Mem G w0 L R w) (ho : o.op = .load ty x := by rfl) (hx : a.eval x = .pointer (some ⟨g, i, none⟩) := by rfl) (hL : ⟨g, t, n, cs⟩ ∈ L := by repeat (first | exact List.Mem.head _ | apply List.Mem.tail)) (hty : OneTy Tryd.prog ty := by first | exact one_u8 | exact one_int | exact one_u32 | exact one_bool | exact one_errno | exact one_u16 | exact one_sl) (hv : cs[i]? = some v := by rfl) : o.quietAt Tryd.prog a C w v :=
  quietAt_mem_cell hM ty x ho g i hx t n cs hL hty v hv
theorem nql (hM : Mem G w0 L R w) (ho : o.op = .load ty x := by rfl) (hx : a.eval x = .pointer (some ⟨g, 0, none⟩) := by rfl) (hL : ⟨g, t, n, cs⟩ ∈ L := by repeat (first | exact List.Mem.head _ | apply List.Mem.tail)) (hty : RowTy Tryd.prog ty n := by first | exact row_a16 | exact row_i35 | exact row_val | exact row_a32 | exact row_e35 | exact row_v35 | exact row_sig | exact row_evi | exact row_half | exact row_dig | exact row_i2 | exact row_i3 | exact row_b3 | exact row_h2 | exact row_pair) : o.quietAt Tryd.prog a C w (.agg cs) :=
  quietAt_mem_load hM ty x ho g hx t n cs hL hty
theorem nqp (hM : Mem G w0 L R w) (ho : o.op = .load ty x := by rfl) (hx : a.eval x = .pointer (some ⟨g, i * 16, none⟩) := by rfl) (hL : ⟨g, t, n, cellsOf k E⟩ ∈ L := by repeat (first | exact List.Mem.head _ | apply List.Mem.tail)) (hty : RowTy Tryd.prog ty 16 := by first | exact row_a16 | exact row_i35 | exact row_val | exact row_a32 | exact row_e35 | exact row_v35 | exact row_sig | exact row_evi | exact row_half | exact row_dig | exact row_i2 | exact row_i3 | exact row_b3 | exact row_h2 | exact row_pair) (hm : i * 16 + 16 ≤ n := by omega) : o.quietAt Tryd.prog a C w (.agg (cellsOf k (piece E i))) :=
  quietAt_mem_piece hM ty x ho g i hx t n k E hL hty hm
end
theorem ev0_size : (evc 0 0 0 0 (zeros 16) (zeros 16) (zeros 560) (zeros 560)).size = 1156 := evc_size ok0
end Go.Proofs.YtbbdnlcjjcmllaaDoor.Once
namespace Go.Bul.Hp
theorem lower_found {a b : List Nat} {k : Nat} (h : lower a b k = none) (hk : nth (split b) k < nth (split a) k) : ∀ m, lower a b (k + 1 + m) = some k
  | 0 => by rw [Nat.add_zero, lower_succ, h, if_pos (show (split b).getD k 0 < (split a).getD k 0 from hk)]; rfl
  | m + 1 => by rw [← Nat.add_assoc, lower_succ, lower_found h hk m]; rfl
theorem lower_next {a b : List Nat} {k : Nat} (h : lower a b k = none) (hk : ¬ nth (split b) k < nth (split a) k) : lower a b (k + 1) = none := by
  rw [lower_succ, h, if_neg (show ¬ (split b).getD k 0 < (split a).getD k 0 from hk)]; rfl
end Go.Bul.Hp
namespace Go.Proofs.YtbbdnlcjjcmllaaDoor.Once
open Go Go.RowKit Go.Bul Go.Bul.Hp
/-- The two results of Lower. -/
def lowRes : Option Nat → Value
  | some c => .tuple #[.int .i64 (c : Nat), .bool true]
  | none => .tuple #[.int .i64 0, .bool false]
set_option maxRecDepth 20000 in
theorem lower_any (a b : List Nat) (w : World) (ha : a.length = 16) (hA : Bytes a) (hb : b.length = 16) (hB : Bytes b) :
    Calls Tryd.prog 53 #[.agg (cellsOf .u8 a), .agg (cellsOf .u8 b)] w fun e w' => e = .returned (lowRes (lower a b 35)) ∧ Below w.heap.size w w' := by
  have hM := Mem.start [] w
  have sA := fun w => split_any a w ha hA
  have sB := fun w => split_any b w hb hB
  have hlf := fun (k : Nat) (h : lower a b k = none) (hk : nth (split b) k < nth (split a) k) => lower_found h hk
  have hln := fun (k : Nat) (h : lower a b k = none) (hk : ¬ nth (split b) k < nth (split a) k) => lower_next h hk
  obtain ⟨x, hx⟩ : ∃ x, x = split a := ⟨_, rfl⟩
  obtain ⟨y, hy⟩ : ∃ y, y = split b := ⟨_, rfl⟩
  have hxl : x.length = 35 := by rw [hx, split_length]
  have hyl : y.length = 35 := by rw [hy, split_length]
  rw [← hx, ← hy] at hlf hln
  rw [← hx] at sA
  rw [← hy] at sB
  obtain ⟨lo, hlo⟩ : ∃ lo, lo = lower a b := ⟨_, rfl⟩
  have hl0 : lo 0 = none := by rw [hlo]; rfl
  rw [← hlo] at hlf hln ⊢
  have HL := Lib.hid (And.intro hlf (And.intro hln hl0))
  have SA := Lib.hid sA
  have SB := Lib.hid sB
  clear hlf hln hx hy sA sB hlo hl0
  go_enter Tryd.func53, Tryd.ntmps53
  go_wp2_with (first | ((with_reducible refine at_load_g ?_ ?_); (· rfl); first | (refine wpList_mem_load hM rfl _ _ (by rfl) _ (by rfl) _ _ _ (by repeat (first | exact List.Mem.head _ | apply List.Mem.tail)) (by first | exact row_a16 | exact row_i35 | exact row_val | exact row_a32 | exact row_e35 | exact row_v35 | exact row_sig | exact row_evi | exact row_half | exact row_dig | exact row_i2 | exact row_i3 | exact row_b3 | exact row_h2 | exact row_pair) ?_) | (refine wpList_mem_num hM rfl _ _ (by rfl) _ _ (by rfl) _ _ _ _ (by repeat (first | exact List.Mem.head _ | apply List.Mem.tail)) (by first | exact one_u8 | exact one_int | exact one_u32 | exact one_bool | exact one_errno | exact one_u16 | exact one_sl) (by omega) ?_)) | ((with_reducible refine at_load ?_); first | (refine wpList_mem_load hM rfl _ _ (by rfl) _ (by rfl) _ _ _ (by repeat (first | exact List.Mem.head _ | apply List.Mem.tail)) (by first | exact row_a16 | exact row_i35 | exact row_val | exact row_a32 | exact row_e35 | exact row_v35 | exact row_sig | exact row_evi | exact row_half | exact row_dig | exact row_i2 | exact row_i3 | exact row_b3 | exact row_h2 | exact row_pair) ?_) | (refine wpList_mem_num hM rfl _ _ (by rfl) _ _ (by rfl) _ _ _ _ (by repeat (first | exact List.Mem.head _ | apply List.Mem.tail)) (by first | exact one_u8 | exact one_int | exact one_u32 | exact one_bool | exact one_errno | exact one_u16 | exact one_sl) (by omega) ?_)) | ((with_reducible refine at_store ?_); first | (refine wpList_mem_store hM rfl _ _ _ (by rfl) _ (by rfl) _ (by rfl) _ _ _ _ (by repeat (first | exact UpdL.head _ _ _ _ _ | apply UpdL.tail)) (by first | exact row_a16 | exact row_i35 | exact row_val | exact row_a32 | exact row_e35 | exact row_v35 | exact row_sig | exact row_evi | exact row_half | exact row_dig | exact row_i2 | exact row_i3 | exact row_b3 | exact row_h2 | exact row_pair) (by first | assumption | (simp; done) | (simp only [cellsOf_size]; first | assumption | exact half_length _ | exact split_length _ | exact firstV_length _ _ _ | exact stepV_length _ _ _ _ | exact valuesV_length _ _ _) | (simp [*]; done)) (by first | exact vals_one _ _ | exact evc_one | (simp [Value.oneCell']; done)) rfl ?_; clear hM; intro wx hM) | (refine wpList_mem_setnum hM rfl _ _ _ (by rfl) _ _ (by rfl) _ _ (by rfl) _ _ _ _ (by repeat (first | exact UpdL.head _ _ _ _ _ | apply UpdL.tail)) (by first | exact one_u8 | exact one_int | exact one_u32 | exact one_bool | exact one_errno | exact one_u16 | exact one_sl) (by omega) _ (by first | rfl | exact (Int.toNat_of_nonneg (by omega)).symm) rfl ?_; clear hM; intro wx hM)) | ((with_reducible refine at_alloc ?_); refine wpList_mem_zero hM rfl _ (by rfl) _ _ (by first | exact zero_a16 | exact zero_i35 | exact zero_i35' | exact zero_val | exact zero_a32 | exact zero_a32' | exact zero_e35 | exact zero_v35 | exact zero_sig | exact zero_evi | exact zero_half | exact zero_dig | exact zero_int | exact zero_u8 | exact zero_i2 | exact zero_i3 | exact zero_b3 | exact zero_h2 | exact zero_pair) ?_; clear hM; intro gx wx hM) | ((with_reducible refine at_box ?_); refine wpList_mem_box hM rfl _ _ (by rfl) _ (by rfl) _ (by first | exact row_a16 | exact row_i35 | exact row_val | exact row_a32 | exact row_e35 | exact row_v35 | exact row_sig | exact row_evi | exact row_half | exact row_dig | exact row_i2 | exact row_i3 | exact row_b3 | exact row_h2 | exact row_pair) (by first | assumption | (simp; done) | (simp only [cellsOf_size]; first | assumption | exact half_length _ | exact split_length _ | exact firstV_length _ _ _ | exact stepV_length _ _ _ _ | exact valuesV_length _ _ _) | (simp [*]; done)) ?_; clear hM; intro gx wx hM))
  refine wp_two_calls (by kernel_rfl) hM 9 10 11 12 6 7 2 3 rfl (by kernel_rfl) ⟨⟨rfl, rfl, rfl, rfl⟩, rfl, rfl, rfl, rfl⟩ ⟨⟨rfl, rfl, rfl, rfl⟩, rfl, rfl, rfl, rfl⟩ _ _ _ _ ⟨⟨rfl, rfl, rfl, rfl⟩, rfl, rfl, rfl, rfl⟩ ⟨⟨by kernel_rfl, by kernel_rfl⟩, ⟨by kernel_rfl, by kernel_rfl⟩, by kernel_rfl, by kernel_rfl⟩ (by decide) (by decide) (by decide) (by simp) Tryd.call33 rfl rfl (by repeat (first | exact List.Mem.head _ | apply List.Mem.tail)) (by repeat (first | exact List.Mem.head _ | apply List.Mem.tail)) row_a16 zero_i35' row_i35 (by simp [hxl]) (by simp [hyl]) (vals_one _ _) (vals_one _ _) SA.out SB.out ?_
  intro gX gY wx hM
  go_simp
  go_wp2_with fail
  have M0 := Lib.hid hM
  clear hM
  obtain ⟨gb, rfl⟩ := M0.out.name3
  obtain ⟨ga, rfl⟩ := M0.out.name4
  go_loopw [13] (fun i wr => ∃ k : Nat, k ≤ 35 ∧ i = .int .i64 (k : Nat) ∧ lo k = none ∧ Mem [] w [⟨gX, 83, 35, cellsOf .i64 x⟩, ⟨gY, 83, 35, cellsOf .i64 y⟩, ⟨gb, 23, 16, cellsOf .u8 b⟩, ⟨ga, 23, 16, cellsOf .u8 a⟩] [] wr) (fun i _ => 35 - (intOf i).toNat)
  case atStart => exact ⟨0, by omega, rfl, HL.out.2.2, M0.out⟩
  case round =>
    obtain ⟨k, hk, rfl, hno, hM⟩ := hrel
    have HN := Lib.hid hno
    clear hno
    by_cases hlt : k < 35
    · have hk' : (k : Int) < 35 := by omega
      by_cases hc : nth y k < nth x k
      · have e1 : lo 35 = some k := by have := HL.out.1 k HN.out hc (35 - (k + 1)); rwa [show k + 1 + (35 - (k + 1)) = 35 by omega] at this
        have E1 := Lib.hid e1
        have hc' : decide ((nth y k : Int) < (nth x k : Int)) = true := by simpa using hc
        have hc2 : decide (nth y k < nth x k) = true := by simpa using hc
        clear e1
        go_wp2_with fail
        refine Go.Bul.wp_region_class (Mem _ w _ _) (by kernel_rfl) (by kernel_rfl) hM.drew ?_
        repeat (refine wpQuiet_step (fun K hK => ?_); (first | refine quiet_some rfl ?_ | refine quiet_wanted rfl ?_); apply Exists.intro; refine ⟨fun w' hM' => ?_, ?_⟩; (· first | exact quietAt_mem_load hM' _ _ (by rfl) _ (by rfl) _ _ _ (by repeat (first | exact List.Mem.head _ | apply List.Mem.tail)) (by first | exact row_a16 | exact row_i35 | exact row_val | exact row_a32 | exact row_e35 | exact row_v35 | exact row_sig | exact row_evi | exact row_half | exact row_dig | exact row_i2 | exact row_i3 | exact row_b3 | exact row_h2 | exact row_pair) | exact quietAt_mem_num hM' _ _ (by rfl) _ _ (by rfl) _ _ _ _ (by repeat (first | exact List.Mem.head _ | apply List.Mem.tail)) (by first | exact one_u8 | exact one_int | exact one_u32 | exact one_bool | exact one_errno | exact one_u16 | exact one_sl) (by omega) | exact quietAt_mem_cell hM' _ _ (by rfl) _ _ (by rfl) _ _ _ (by repeat (first | exact List.Mem.head _ | apply List.Mem.tail)) (by first | exact one_u8 | exact one_int | exact one_u32 | exact one_bool | exact one_errno | exact one_u16 | exact one_sl) _ (by rfl) | exact quietAt_mem_piece hM' _ _ (by rfl) _ _ (by rfl) _ _ _ _ (by repeat (first | exact List.Mem.head _ | apply List.Mem.tail)) (by first | exact row_a16 | exact row_i35 | exact row_val | exact row_a32 | exact row_e35 | exact row_v35 | exact row_sig | exact row_evi | exact row_half | exact row_dig | exact row_i2 | exact row_i3 | exact row_b3 | exact row_h2 | exact row_pair) (by omega) | (go_simp; rfl) | (go_simp; with_reducible refine at_calls ?_; first | fail)); go_simp; refine hK _ ?_; clear hK K)
        refine wpQuiet_nil ?_
        intro wx hM
        go_wp2_with fail
        go_ret2
        exact ⟨by rw [E1.out]; rfl, hM.below⟩
      · have e1 := HL.out.2.1 k HN.out hc
        have E1 := Lib.hid e1
        have hc' : decide ((nth y k : Int) < (nth x k : Int)) = false := by simpa using hc
        have hc2 : decide (nth y k < nth x k) = false := by simpa using hc
        clear e1
        go_wp2_with fail
        refine Go.Bul.wp_region_class (Mem _ w _ _) (by kernel_rfl) (by kernel_rfl) hM.drew ?_
        repeat (refine wpQuiet_step (fun K hK => ?_); (first | refine quiet_some rfl ?_ | refine quiet_wanted rfl ?_); apply Exists.intro; refine ⟨fun w' hM' => ?_, ?_⟩; (· first | exact quietAt_mem_load hM' _ _ (by rfl) _ (by rfl) _ _ _ (by repeat (first | exact List.Mem.head _ | apply List.Mem.tail)) (by first | exact row_a16 | exact row_i35 | exact row_val | exact row_a32 | exact row_e35 | exact row_v35 | exact row_sig | exact row_evi | exact row_half | exact row_dig | exact row_i2 | exact row_i3 | exact row_b3 | exact row_h2 | exact row_pair) | exact quietAt_mem_num hM' _ _ (by rfl) _ _ (by rfl) _ _ _ _ (by repeat (first | exact List.Mem.head _ | apply List.Mem.tail)) (by first | exact one_u8 | exact one_int | exact one_u32 | exact one_bool | exact one_errno | exact one_u16 | exact one_sl) (by omega) | exact quietAt_mem_cell hM' _ _ (by rfl) _ _ (by rfl) _ _ _ (by repeat (first | exact List.Mem.head _ | apply List.Mem.tail)) (by first | exact one_u8 | exact one_int | exact one_u32 | exact one_bool | exact one_errno | exact one_u16 | exact one_sl) _ (by rfl) | exact quietAt_mem_piece hM' _ _ (by rfl) _ _ (by rfl) _ _ _ _ (by repeat (first | exact List.Mem.head _ | apply List.Mem.tail)) (by first | exact row_a16 | exact row_i35 | exact row_val | exact row_a32 | exact row_e35 | exact row_v35 | exact row_sig | exact row_evi | exact row_half | exact row_dig | exact row_i2 | exact row_i3 | exact row_b3 | exact row_h2 | exact row_pair) (by omega) | (go_simp; rfl) | (go_simp; with_reducible refine at_calls ?_; first | fail)); go_simp; refine hK _ ?_; clear hK K)
        refine wpQuiet_nil ?_
        intro wx hM
        go_wp2_with fail
        exact ⟨⟨k + 1, by omega, by go_num, E1.out, hM⟩, by simp [intOf]; omega⟩
    · obtain rfl : k = 35 := by omega
      go_wp2_with fail
      go_ret2
      exact ⟨by rw [HN.out]; rfl, hM.below⟩
end Go.Proofs.YtbbdnlcjjcmllaaDoor.Once
