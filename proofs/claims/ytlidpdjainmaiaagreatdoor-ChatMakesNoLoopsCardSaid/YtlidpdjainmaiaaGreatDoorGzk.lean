/- Seat c: maps whose keys are ids, as things; the laws of the walk for them. -/
import Derived.Test.YtlidpdjainmaiaaGreatDoorGzj
import Derived.Maps.OwnSet
import Derived.Maps.OwnOps
import Derived.DeepKeys4
namespace Go.Lin
open Go Go.Bul
def updM (mp : Nat → Option Value) (j : Nat) (o : Option Value) : Nat → Option Value := fun i => if i = j then o else mp i
def cntM (mp : Nat → Option Value) : Nat := (List.range 200).countP fun j => (mp j).isSome
theorem countP_upd (p : Nat → Bool) (j : Nat) (b : Bool) : ∀ l : List Nat, l.Nodup → j ∈ l → l.countP (fun i => if i = j then b else p i) + (if p j then 1 else 0) = l.countP p + (if b then 1 else 0)
  | [], _, h => absurd h (by simp)
  | a :: l, hn, h => by
    obtain ⟨h1, h2⟩ := List.nodup_cons.1 hn
    simp only [List.countP_cons]
    by_cases ha : a = j
    · subst ha
      have e : l.countP (fun i => if i = a then b else p i) = l.countP p := List.countP_congr fun x hx => by
        have : x ≠ a := fun e => h1 (e ▸ hx)
        simp [this]
      rw [e]
      simp only [if_true]
      omega
    · have hj : j ∈ l := by
        rcases List.mem_cons.1 h with h | h
        · exact absurd h.symm ha
        · exact h
      have ih := countP_upd p j b l h2 hj
      simp only [if_neg ha]
      omega
theorem cntM_upd (mp : Nat → Option Value) {j : Nat} (hj : j < 200) (o : Option Value) : cntM (updM mp j o) + (if (mp j).isSome then 1 else 0) = cntM mp + (if o.isSome then 1 else 0) := by
  have h := countP_upd (fun i => (mp i).isSome) j o.isSome (List.range 200) List.nodup_range (by simpa using hj)
  refine Eq.trans (congrArg (fun k => k + _) ?_) h
  exact List.countP_congr fun x _ => by unfold updM; split <;> simp_all
theorem cntM_le (mp : Nat → Option Value) : cntM mp ≤ 200 := by have := List.countP_le_length (p := fun j => (mp j).isSome) (l := List.range 200); simpa [cntM] using this
theorem cntM_none : cntM (fun _ => none) = 0 := by simp [cntM]
end Go.Lin
namespace Go.Proofs.YtlidpdjainmaiaaGreatDoor
open Go Go.RowKit Go.Bul Go.Thg Go.Lin Go.Maps
theorem laidOutN : laidOutB Tryz.prog = true := by kernel_rfl
theorem kid : Keyed Tryz.prog 45 := Keyed.of_law (deep_law_laid laidOutN (m := 2) (by omega) (of_decide_eq_true (by kernel_rfl)) (by kernel_rfl) (by rw [Tryz.underlying45]))
theorem key_some : ∀ j : Fin 200, (keyOf Tryz.prog 45 (.agg (stC j.val []))).isSome = true := by decide +kernel
noncomputable def kl (j : Nat) : Lit := (keyOf Tryz.prog 45 (.agg (stC j []))).getD (.bool false)
theorem key_id {j : Nat} (h : j < 200) : keyOf Tryz.prog 45 (.agg (stC j [])) = some (kl j) := by
  have h1 := key_some ⟨j, h⟩
  unfold kl
  cases hk : keyOf Tryz.prog 45 (.agg (stC j [])) with
  | none => rw [hk] at h1; cases h1
  | some l => rfl
theorem stC_inj {i j : Nat} (h : stC i [] = stC j []) : i = j := by
  have h := congrArg Array.toList h
  unfold stC at h
  simp only [List.append_nil, idL, vals, List.map_cons, List.cons.injEq, Value.int.injEq, true_and, and_true] at h
  omega
set_option maxRecDepth 100000 in
theorem kl_inj {i j : Nat} (hi : i < 200) (hj : j < 200) (h : kl i = kl j) : i = j := by
  have h1 := Keyed.inj kid (a := .agg (stC i [])) (b := .agg (stC j [])) (l := kl j) (h ▸ key_id hi) (key_id hj)
  injection h1 with h1
  exact stC_inj h1
set_option maxRecDepth 100000 in
theorem kl_key {j : Nat} (h : j < 200) : WideAt.IsKeyLit (kl j) := Keyed.key kid (v := .agg (stC j [])) (l := kl j) (key_id h)
def rdV (v : Value) : Option (DataW Value × List MemPlace) := some (.held v, [])
structure MapIs (D : DataW Value) (mp : Nat → Option Value) : Prop where
  isMap : IsMap D
  only : ∀ l, Maps.has D l = true → ∃ j, j < 200 ∧ l = kl j
  has : ∀ j, j < 200 → Maps.has D (kl j) = (mp j).isSome
  val : ∀ j, j < 200 → ∀ z, D.atKey (kl j) (.held z) = .held ((mp j).getD z)
  size : Maps.size D = cntM mp
theorem MapIs.empty : MapIs (.map []) (fun _ => none) := ⟨⟨_, rfl⟩, fun l h => (by cases h), fun _ _ => rfl, fun _ _ _ => rfl, by rw [cntM_none]; rfl⟩
set_option maxRecDepth 100000 in
theorem MapIs.put {D : DataW Value} {mp : Nat → Option Value} (h : MapIs D mp) (ht : Tidy D) {j : Nat} (hj : j < 200) (v : Value) : MapIs (D.put (kl j) (.held v)) (updM mp j (some v)) := by
  refine ⟨(ht.put (kl_key hj) _).isMap, fun l hl => ?_, fun i hi => ?_, fun i hi z => ?_, ?_⟩
  · by_cases e : l = kl j
    · exact ⟨j, hj, e⟩
    · rw [has_put_other e] at hl
      exact h.only l hl
  · unfold updM
    by_cases e : i = j
    · subst e
      rw [has_put_same h.isMap (kl_key hi)]
      simp
    · rw [has_put_other (fun e' => e (kl_inj hi hj e')), if_neg e]
      exact h.has i hi
  · unfold updM
    by_cases e : i = j
    · subst e
      rw [atKey_put_same h.isMap (kl_key hi)]
      simp
    · rw [atKey_put_other (fun e' => e (kl_inj hi hj e')), if_neg e]
      exact h.val i hi z
  · rw [size_put ht, h.size, h.has j hj]
    have := cntM_upd mp hj (some v)
    simp only [Option.isSome_some, if_true] at this
    split <;> simp_all
theorem MapIs.del {D : DataW Value} {mp : Nat → Option Value} (h : MapIs D mp) (ht : Tidy D) {j : Nat} (hj : j < 200) : MapIs (D.del (kl j)) (updM mp j none) := by
  refine ⟨(ht.del _).isMap, fun l hl => ?_, fun i hi => ?_, fun i hi z => ?_, ?_⟩
  · by_cases e : l = kl j
    · exact ⟨j, hj, e⟩
    · rw [has_del_other e] at hl
      exact h.only l hl
  · unfold updM
    by_cases e : i = j
    · subst e
      rw [has_del_same]
      simp
    · rw [has_del_other (fun e' => e (kl_inj hi hj e')), if_neg e]
      exact h.has i hi
  · unfold updM
    by_cases e : i = j
    · subst e
      rw [atKey_del_same]
      simp
    · rw [atKey_del_other (fun e' => e (kl_inj hi hj e')), if_neg e]
      exact h.val i hi z
  · have h1 := size_del (k := kl j) ht
    rw [h.size, h.has j hj] at h1
    have := cntM_upd mp hj none
    simp only [Option.isSome_none, Bool.false_eq_true, if_false] at this
    split at this <;> simp_all <;> omega
/-- Such a map is there. -/
def mapT (b : Nat) (mp : Nat → Option Value) : Thing where
  fp := [b]
  P := fun w => ∃ D, w.ownsMap Tryz.prog 45 rdV b 200 D ∧ MapIs D mp
  keep := fun w w' h hp => by
    obtain ⟨D, ⟨es, clock, hb, F, hs, hD⟩, hm⟩ := hp
    exact ⟨D, ⟨es, clock, (h b (List.mem_singleton.2 rfl)).trans hb, F, hs, hD⟩, hm⟩
  lt := fun w hp g hg => by
    obtain rfl := List.mem_singleton.1 hg
    obtain ⟨D, hD, _⟩ := hp
    exact hD.lt
  nd := fun _ _ => by simp
theorem owns_eleven {w : World} {b n : Nat} {D : DataW Value} {mp : Nat → Option Value} (h : w.ownsMap Tryz.prog 45 rdV b n D) (hm : MapIs D mp) : w.ownsMap Tryz.prog 45 rdV b 200 D := by
  obtain ⟨es, clock, hb, F, hs, rfl⟩ := h
  refine ⟨es, clock, hb, F, ?_, rfl⟩
  have h1 := hm.size
  have h2 := cntM_le mp
  have e1 : Maps.size (DataW.map ((es.toList.map (Go.WideElems.rg Tryz.prog 45 rdV)).foldr DataW.insert [])) = es.size := by simp [Maps.size, length_sorted]
  omega
structure MapTy (t e : TypeId) (z : Value) : Prop where
  u : Tryz.prog.underlying t = some (.map 45 e)
  z : ∀ w, (zeroValue e).run Tryz.prog w = .ok z w
theorem mty_bool : MapTy 55 4 (.bool false) := ⟨Tryz.underlying55, fun w => by kernel_rfl⟩
theorem map_new (w : World) : Becomes [] w (mapT w.heap.size (fun _ => none)) (w.alloc (.map #[] 0)) := by
  refine ⟨⟨_, (World.ownsMap_made _ _ _ _).mono (by omega), MapIs.empty⟩, KeptBut.of_below ((Below.refl _ w).alloc (Nat.le_refl _) _), fun g hg => .inr ?_⟩
  obtain rfl := List.mem_singleton.1 hg
  exact Nat.le_refl _
theorem kept_grown {w w' : World} {b : Nat} (hg : w.grownBy w' (some b)) : KeptBut [b] w w' :=
  ⟨hg.os, hg.tape, hg.output, hg.size, fun k hk hn => hg.block k hk (fun e => hn (by injection e with e; rw [e]; exact List.mem_singleton.2 rfl))⟩
section
variable {w w0 : World} {G : List Nat} {L : List Ent} {R : List Thing} {ops : Array Oper} {rest : List Oper} {o : Oper} {a : Act} {Q : Exit → Act → World → Prop} {dst : Option Tmp} {type : TypeId} {pos : String} {after : Array Edge} {x y z : Operand} {b n j : Nat} {mp : Nat → Option Value} {t e : TypeId} {zv v : Value}
theorem at_mmake {r : Option Operand} (h : wpList Tryz.prog ops Q (⟨dst, .makeMap t r, type, pos, after, none⟩ :: rest) a w) : wpList Tryz.prog ops Q (⟨dst, .makeMap t r, type, pos, after, none⟩ :: rest) a w := h
theorem at_mput (h : wpList Tryz.prog ops Q (⟨dst, .mapUpdate t x y z, type, pos, after, none⟩ :: rest) a w) : wpList Tryz.prog ops Q (⟨dst, .mapUpdate t x y z, type, pos, after, none⟩ :: rest) a w := h
theorem at_mlook {k : Bool} (h : wpList Tryz.prog ops Q (⟨dst, .lookup t x y k, type, pos, after, none⟩ :: rest) a w) : wpList Tryz.prog ops Q (⟨dst, .lookup t x y k, type, pos, after, none⟩ :: rest) a w := h
theorem at_mdel {xs : Array Operand} {ts : Array TypeId} (h : wpList Tryz.prog ops Q (⟨dst, .call { callee := .builtin .delete, args := xs, argTypes := ts }, type, pos, after, none⟩ :: rest) a w) : wpList Tryz.prog ops Q (⟨dst, .call { callee := .builtin .delete, args := xs, argTypes := ts }, type, pos, after, none⟩ :: rest) a w := h
theorem at_blen {xs : Array Operand} {ts : Array TypeId} (h : wpList Tryz.prog ops Q (⟨dst, .call { callee := .builtin .len, args := xs, argTypes := ts }, type, pos, after, none⟩ :: rest) a w) : wpList Tryz.prog ops Q (⟨dst, .call { callee := .builtin .len, args := xs, argTypes := ts }, type, pos, after, none⟩ :: rest) a w := h
theorem run_mmake (w : World) : (Instr.makeMap t none).run Tryz.prog w = .ok (.map (some w.heap.size)) (w.alloc (.map #[] 0)) := by
  unfold Instr.makeMap
  simp [Result.andThen]
theorem nmm (hM : Mem G w0 L R w) (h : ∀ b w', Mem G w0 L (mapT b (fun _ => none) :: R) w' → wpList Tryz.prog ops Q rest (a.put o.dst (.map (some b))) w') (hgd : o.guard = none := by rfl) (ho : o.op = .makeMap t none := by rfl) : wpList Tryz.prog ops Q (o :: rest) a w := by
  refine wpList_plain hgd fun K hK => ?_
  unfold Oper.wp execOp
  simp only [ho, Option.map_none, Sem.run_bind, Sem.run_pure, Result.andThen_ok, run_mmake]
  exact hK _ _ (h _ _ (hM.newThing (map_new w)))
theorem look_run (hT : MapTy t e zv) (hj : j < 200) (hp : (mapT b mp).P w) : (Instr.lookup t (.map (some b)) (.agg (stC j [])) false).run Tryz.prog w = .ok ((mp j).getD zv) w := by
  obtain ⟨D, hown, hm⟩ := hp
  obtain ⟨v, ps, hrun, hv⟩ := hown.lookup kid hT.u (hT.z w) (show rdV zv = some (.held zv, []) from rfl) (key_id hj)
  rw [hm.val j hj] at hv
  simp only [rdV, Option.some.injEq, Prod.mk.injEq, DataW.held.injEq] at hv
  rw [hrun, hv.1]
theorem look_ok_run (hT : MapTy t e zv) (hj : j < 200) (hp : (mapT b mp).P w) : (Instr.lookup t (.map (some b)) (.agg (stC j [])) true).run Tryz.prog w = .ok (.tuple #[(mp j).getD zv, .bool (mp j).isSome]) w := by
  obtain ⟨D, hown, hm⟩ := hp
  obtain ⟨v, ps, hrun, hv⟩ := hown.look_ok kid hT.u (hT.z w) (show rdV zv = some (.held zv, []) from rfl) (key_id hj)
  rw [hm.val j hj] at hv
  simp only [rdV, Option.some.injEq, Prod.mk.injEq, DataW.held.injEq] at hv
  rw [hrun, hv.1, hm.has j hj]
theorem yml (hT : MapTy t e zv) (hM : Mem G w0 L R w) (hj : j < 200) (hv : (mp j).getD zv = v) (ho : o.op = .lookup t x y false := by rfl) (hx : a.eval x = .map (some b) := by rfl) (hy : a.eval y = .agg (stC j []) := by rfl) (hR : mapT b mp ∈ R := by repeat (first | exact List.Mem.head _ | assumption | apply List.Mem.tail)) : (execOp a.eval o).run Tryz.prog w = .ok (.value v) w := by
  unfold execOp
  simp only [ho, hx, hy, Sem.run_bind, look_run hT hj (hM.thing _ hR), Result.andThen_ok, Sem.run_pure, hv]
theorem ymk (hT : MapTy t e zv) (hM : Mem G w0 L R w) (hj : j < 200) {k : Bool} (hv : (mp j).getD zv = v) (hk : (mp j).isSome = k) (ho : o.op = .lookup t x y true := by rfl) (hx : a.eval x = .map (some b) := by rfl) (hy : a.eval y = .agg (stC j []) := by rfl) (hR : mapT b mp ∈ R := by repeat (first | exact List.Mem.head _ | assumption | apply List.Mem.tail)) : (execOp a.eval o).run Tryz.prog w = .ok (.value (.tuple #[v, .bool k])) w := by
  unfold execOp
  simp only [ho, hx, hy, Sem.run_bind, look_ok_run hT hj (hM.thing _ hR), Result.andThen_ok, Sem.run_pure, hv, hk]
theorem nmu {F : Thing → List Thing} (hM : Mem G w0 L R w) (hT : MapTy t e zv) (hj : j < 200) (h : ∀ w', Mem G w0 L (F (mapT b (updM mp j (some v)))) w' → wpList Tryz.prog ops Q rest (a.put o.dst undef) w') (hgd : o.guard = none := by rfl) (ho : o.op = .mapUpdate t x y z := by rfl) (hx : a.eval x = .map (some b) := by rfl) (hy : a.eval y = .agg (stC j []) := by rfl) (hz : a.eval z = v := by rfl) (hR : UpdR (mapT b mp) R F := by repeat (first | exact UpdR.head _ _ | assumption | apply UpdR.tail)) : wpList Tryz.prog ops Q (o :: rest) a w := by
  obtain ⟨D, hown, hm⟩ := hM.thing _ (mem_of_updR hR)
  refine wpList_mapUpdate_own w hgd x y z t ho 45 e kid hT.u _ b 200 D hx hown (by unfold maxLen; omega) _ _ _ hy hz (key_id hj) _ [] (show rdV v = some (.held v, []) from rfl) fun w' h1 h2 => h w' (hM.turn hR ?_)
  have hm' := hm.put (hown.tidy kid) hj v
  exact ⟨⟨_, owns_eleven h1 hm', hm'⟩, kept_grown h2, fun _ hg => .inl hg⟩
theorem nmd {F : Thing → List Thing} {k : TypeId} (hM : Mem G w0 L R w) (hT : MapTy t e zv) (hj : j < 200) (h : ∀ w', Mem G w0 L (F (mapT b (updM mp j none))) w' → wpList Tryz.prog ops Q rest (a.put o.dst (.tuple #[])) w') (hk : k = 45 := by rfl) (hgd : o.guard = none := by rfl) (ho : o.op = .call { callee := .builtin .delete, args := #[x, y], argTypes := #[t, k] } := by rfl) (hx : a.eval x = .map (some b) := by rfl) (hy : a.eval y = .agg (stC j []) := by rfl) (hR : UpdR (mapT b mp) R F := by repeat (first | exact UpdR.head _ _ | assumption | apply UpdR.tail)) : wpList Tryz.prog ops Q (o :: rest) a w := by
  subst hk
  obtain ⟨D, hown, hm⟩ := hM.thing _ (mem_of_updR hR)
  refine wpList_delete_own w hgd x y t _ ho e kid hT.u _ b 200 D hx hown _ _ hy (key_id hj) fun w' h1 h2 => h w' (hM.turn hR ?_)
  have hm' := hm.del (hown.tidy kid) hj
  exact ⟨⟨_, owns_eleven h1 hm', hm'⟩, kept_grown h2.grown, fun _ hg => .inl hg⟩
theorem nmn (hM : Mem G w0 L R w) (hT : MapTy t e zv) (h : wpList Tryz.prog ops Q rest (a.put o.dst (.int .i64 (cntM mp : Nat))) w) (hgd : o.guard = none := by rfl) (ho : o.op = .call { callee := .builtin .len, args := #[x], argTypes := #[t] } := by rfl) (hx : a.eval x = .map (some b) := by rfl) (hR : mapT b mp ∈ R := by repeat (first | exact List.Mem.head _ | assumption | apply List.Mem.tail)) : wpList Tryz.prog ops Q (o :: rest) a w := by
  obtain ⟨D, hown, hm⟩ := hM.thing _ hR
  refine wpList_len_own w hgd x t ho 45 e hT.u _ b 200 D hx hown ?_
  rw [hm.size]
  exact h
end
end Go.Proofs.YtlidpdjainmaiaaGreatDoor
