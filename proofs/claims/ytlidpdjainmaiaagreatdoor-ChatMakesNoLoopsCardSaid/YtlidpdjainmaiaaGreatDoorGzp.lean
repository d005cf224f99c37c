/- Seat c: a map of two texts. (Made of XGzk.) -/
import Derived.Test.YtlidpdjainmaiaaGreatDoorGzo
import Derived.Maps.OwnSet
import Derived.Maps.OwnOps
import Derived.DeepKeys4
namespace Go.Lin
open Go Go.Bul
def cntS (mp : Nat → Option Value) : Nat := (List.range 2).countP fun j => (mp j).isSome
theorem cntS_upd (mp : Nat → Option Value) {j : Nat} (hj : j < 2) (o : Option Value) : cntS (updM mp j o) + (if (mp j).isSome then 1 else 0) = cntS mp + (if o.isSome then 1 else 0) := by
  have h := countP_upd (fun i => (mp i).isSome) j o.isSome (List.range 2) List.nodup_range (by simpa using hj)
  refine Eq.trans (congrArg (fun k => k + _) ?_) h
  exact List.countP_congr fun x _ => by unfold updM; split <;> simp_all
theorem cntS_le (mp : Nat → Option Value) : cntS mp ≤ 2 := by have := List.countP_le_length (p := fun j => (mp j).isSome) (l := List.range 2); simpa [cntS] using this
theorem cntS_none : cntS (fun _ => none) = 0 := by simp [cntS]
/-- "jrdoe", "jrdoe2". -/
def kk (j : Nat) : ByteArray := if j = 0 then ⟨#[106, 114, 100, 111, 101]⟩ else ⟨#[106, 114, 100, 111, 101, 50]⟩
end Go.Lin
namespace Go.Proofs.YtlidpdjainmaiaaGreatDoor
open Go Go.RowKit Go.Bul Go.Thg Go.Lin Go.Maps
theorem kidS : Keyed Tryz.prog 9 := string_keyed Tryz.underlying9
theorem key_someS : ∀ j : Fin 2, (keyOf Tryz.prog 9 (.string (kk j.val))).isSome = true := by decide +kernel
noncomputable def klS (j : Nat) : Lit := (keyOf Tryz.prog 9 (.string (kk j))).getD (.bool false)
theorem key_idS {j : Nat} (h : j < 2) : keyOf Tryz.prog 9 (.string (kk j)) = some (klS j) := by
  have h1 := key_someS ⟨j, h⟩
  unfold klS
  cases hk : keyOf Tryz.prog 9 (.string (kk j)) with
  | none => rw [hk] at h1; cases h1
  | some l => rfl
theorem kk_inj {i j : Nat} (hi : i < 2) (hj : j < 2) (h : kk i = kk j) : i = j := by
  have hi' : i = 0 ∨ i = 1 := by omega
  have hj' : j = 0 ∨ j = 1 := by omega
  rcases hi' with rfl | rfl <;> rcases hj' with rfl | rfl
  · rfl
  · exact absurd h (by decide)
  · exact absurd h (by decide)
  · rfl
set_option maxRecDepth 100000 in
theorem kl_injS {i j : Nat} (hi : i < 2) (hj : j < 2) (h : klS i = klS j) : i = j := by
  have h1 := Keyed.inj kidS (a := .string (kk i)) (b := .string (kk j)) (l := klS j) (h ▸ key_idS hi) (key_idS hj)
  injection h1 with h1
  exact kk_inj hi hj h1
set_option maxRecDepth 100000 in
theorem kl_keyS {j : Nat} (h : j < 2) : WideAt.IsKeyLit (klS j) := Keyed.key kidS (v := .string (kk j)) (l := klS j) (key_idS h)
def rdVS (v : Value) : Option (DataW Value × List MemPlace) := some (.held v, [])
structure MapIsS (D : DataW Value) (mp : Nat → Option Value) : Prop where
  isMap : IsMap D
  only : ∀ l, Maps.has D l = true → ∃ j, j < 2 ∧ l = klS j
  has : ∀ j, j < 2 → Maps.has D (klS j) = (mp j).isSome
  val : ∀ j, j < 2 → ∀ z, D.atKey (klS j) (.held z) = .held ((mp j).getD z)
  size : Maps.size D = cntS mp
theorem MapIsS.empty : MapIsS (.map []) (fun _ => none) := ⟨⟨_, rfl⟩, fun l h => (by cases h), fun _ _ => rfl, fun _ _ _ => rfl, by rw [cntS_none]; rfl⟩
set_option maxRecDepth 100000 in
theorem MapIsS.put {D : DataW Value} {mp : Nat → Option Value} (h : MapIsS D mp) (ht : Tidy D) {j : Nat} (hj : j < 2) (v : Value) : MapIsS (D.put (klS j) (.held v)) (updM mp j (some v)) := by
  refine ⟨(ht.put (kl_keyS hj) _).isMap, fun l hl => ?_, fun i hi => ?_, fun i hi z => ?_, ?_⟩
  · by_cases e : l = klS j
    · exact ⟨j, hj, e⟩
    · rw [has_put_other e] at hl
      exact h.only l hl
  · unfold updM
    by_cases e : i = j
    · subst e
      rw [has_put_same h.isMap (kl_keyS hi)]
      simp
    · rw [has_put_other (fun e' => e (kl_injS hi hj e')), if_neg e]
      exact h.has i hi
  · unfold updM
    by_cases e : i = j
    · subst e
      rw [atKey_put_same h.isMap (kl_keyS hi)]
      simp
    · rw [atKey_put_other (fun e' => e (kl_injS hi hj e')), if_neg e]
      exact h.val i hi z
  · rw [size_put ht, h.size, h.has j hj]
    have := cntS_upd mp hj (some v)
    simp only [Option.isSome_some, if_true] at this
    split <;> simp_all
theorem MapIsS.del {D : DataW Value} {mp : Nat → Option Value} (h : MapIsS D mp) (ht : Tidy D) {j : Nat} (hj : j < 2) : MapIsS (D.del (klS j)) (updM mp j none) := by
  refine ⟨(ht.del _).isMap, fun l hl => ?_, fun i hi => ?_, fun i hi z => ?_, ?_⟩
  · by_cases e : l = klS j
    · exact ⟨j, hj, e⟩
    · rw [has_del_other e] at hl
      exact h.only l hl
  · unfold updM
    by_cases e : i = j
    · subst e
      rw [has_del_same]
      simp
    · rw [has_del_other (fun e' => e (kl_injS hi hj e')), if_neg e]
      exact h.has i hi
  · unfold updM
    by_cases e : i = j
    · subst e
      rw [atKey_del_same]
      simp
    · rw [atKey_del_other (fun e' => e (kl_injS hi hj e')), if_neg e]
      exact h.val i hi z
  · have h1 := size_del (k := klS j) ht
    rw [h.size, h.has j hj] at h1
    have := cntS_upd mp hj none
    simp only [Option.isSome_none, Bool.false_eq_true, if_false] at this
    split at this <;> simp_all <;> omega
/-- Such a map is there. -/
def mapTS (b : Nat) (mp : Nat → Option Value) : Thing where
  fp := [b]
  P := fun w => ∃ D, w.ownsMap Tryz.prog 9 rdVS b 2 D ∧ MapIsS D mp
  keep := fun w w' h hp => by
    obtain ⟨D, ⟨es, clock, hb, F, hs, hD⟩, hm⟩ := hp
    exact ⟨D, ⟨es, clock, (h b (List.mem_singleton.2 rfl)).trans hb, F, hs, hD⟩, hm⟩
  lt := fun w hp g hg => by
    obtain rfl := List.mem_singleton.1 hg
    obtain ⟨D, hD, _⟩ := hp
    exact hD.lt
  nd := fun _ _ => by simp
theorem owns_elevenS {w : World} {b n : Nat} {D : DataW Value} {mp : Nat → Option Value} (h : w.ownsMap Tryz.prog 9 rdVS b n D) (hm : MapIsS D mp) : w.ownsMap Tryz.prog 9 rdVS b 2 D := by
  obtain ⟨es, clock, hb, F, hs, rfl⟩ := h
  refine ⟨es, clock, hb, F, ?_, rfl⟩
  have h1 := hm.size
  have h2 := cntS_le mp
  have e1 : Maps.size (DataW.map ((es.toList.map (Go.WideElems.rg Tryz.prog 9 rdVS)).foldr DataW.insert [])) = es.size := by simp [Maps.size, length_sorted]
  omega
structure MapTyS (t e : TypeId) (z : Value) : Prop where
  u : Tryz.prog.underlying t = some (.map 9 e)
  z : ∀ w, (zeroValue e).run Tryz.prog w = .ok z w
theorem mty_boolS : MapTyS 93 4 (.bool false) := ⟨Tryz.underlying93, fun w => by kernel_rfl⟩
theorem map_newS (w : World) : Becomes [] w (mapTS w.heap.size (fun _ => none)) (w.alloc (.map #[] 0)) := by
  refine ⟨⟨_, (World.ownsMap_made _ _ _ _).mono (by omega), MapIsS.empty⟩, KeptBut.of_below ((Below.refl _ w).alloc (Nat.le_refl _) _), fun g hg => .inr ?_⟩
  obtain rfl := List.mem_singleton.1 hg
  exact Nat.le_refl _
theorem kept_grownS {w w' : World} {b : Nat} (hg : w.grownBy w' (some b)) : KeptBut [b] w w' :=
  ⟨hg.os, hg.tape, hg.output, hg.size, fun k hk hn => hg.block k hk (fun e => hn (by injection e with e; rw [e]; exact List.mem_singleton.2 rfl))⟩
section
variable {w w0 : World} {G : List Nat} {L : List Ent} {R : List Thing} {ops : Array Oper} {rest : List Oper} {o : Oper} {a : Act} {Q : Exit → Act → World → Prop} {dst : Option Tmp} {type : TypeId} {pos : String} {after : Array Edge} {x y z : Operand} {b n j : Nat} {mp : Nat → Option Value} {t e : TypeId} {zv v : Value}
theorem at_mmakeS {r : Option Operand} (h : wpList Tryz.prog ops Q (⟨dst, .makeMap t r, type, pos, after, none⟩ :: rest) a w) : wpList Tryz.prog ops Q (⟨dst, .makeMap t r, type, pos, after, none⟩ :: rest) a w := h
theorem at_mputS (h : wpList Tryz.prog ops Q (⟨dst, .mapUpdate t x y z, type, pos, after, none⟩ :: rest) a w) : wpList Tryz.prog ops Q (⟨dst, .mapUpdate t x y z, type, pos, after, none⟩ :: rest) a w := h
theorem at_mlookS {k : Bool} (h : wpList Tryz.prog ops Q (⟨dst, .lookup t x y k, type, pos, after, none⟩ :: rest) a w) : wpList Tryz.prog ops Q (⟨dst, .lookup t x y k, type, pos, after, none⟩ :: rest) a w := h
theorem at_mdelS {xs : Array Operand} {ts : Array TypeId} (h : wpList Tryz.prog ops Q (⟨dst, .call { callee := .builtin .delete, args := xs, argTypes := ts }, type, pos, after, none⟩ :: rest) a w) : wpList Tryz.prog ops Q (⟨dst, .call { callee := .builtin .delete, args := xs, argTypes := ts }, type, pos, after, none⟩ :: rest) a w := h
theorem at_blenS {xs : Array Operand} {ts : Array TypeId} (h : wpList Tryz.prog ops Q (⟨dst, .call { callee := .builtin .len, args := xs, argTypes := ts }, type, pos, after, none⟩ :: rest) a w) : wpList Tryz.prog ops Q (⟨dst, .call { callee := .builtin .len, args := xs, argTypes := ts }, type, pos, after, none⟩ :: rest) a w := h
theorem run_mmakeS (w : World) : (Instr.makeMap t none).run Tryz.prog w = .ok (.map (some w.heap.size)) (w.alloc (.map #[] 0)) := by
  unfold Instr.makeMap
  simp [Result.andThen]
theorem run_mmakeS2 (k : Nat) (w : World) : (Instr.makeMap 93 (some (.int .i64 (k : Nat)))).run Tryz.prog w = .ok (.map (some w.heap.size)) (w.alloc (.map #[] 0)) := by
  unfold Instr.makeMap
  simp [Result.andThen, run_underlying Tryz.underlying93, asInt, asIntOf, Sem.run_bind]
theorem nmmS (k : Nat) (hM : Mem G w0 L R w) (h : ∀ b w', Mem G w0 L (mapTS b (fun _ => none) :: R) w' → wpList Tryz.prog ops Q rest (a.put o.dst (.map (some b))) w') (hgd : o.guard = none := by rfl) (ho : o.op = .makeMap 93 (some x) := by rfl) (hx : a.eval x = .int .i64 (k : Nat) := by rfl) : wpList Tryz.prog ops Q (o :: rest) a w := by
  refine wpList_plain hgd fun K hK => ?_
  unfold Oper.wp execOp
  simp only [ho, hx, Option.map_some, Sem.run_bind, Sem.run_pure, Result.andThen_ok, run_mmakeS2]
  exact hK _ _ (h _ _ (hM.newThing (map_newS w)))
theorem look_runS (hT : MapTyS t e zv) (hj : j < 2) (hp : (mapTS b mp).P w) : (Instr.lookup t (.map (some b)) (.string (kk j)) false).run Tryz.prog w = .ok ((mp j).getD zv) w := by
  obtain ⟨D, hown, hm⟩ := hp
  obtain ⟨v, ps, hrun, hv⟩ := hown.lookup kidS hT.u (hT.z w) (show rdVS zv = some (.held zv, []) from rfl) (key_idS hj)
  rw [hm.val j hj] at hv
  simp only [rdVS, Option.some.injEq, Prod.mk.injEq, DataW.held.injEq] at hv
  rw [hrun, hv.1]
theorem look_ok_runS (hT : MapTyS t e zv) (hj : j < 2) (hp : (mapTS b mp).P w) : (Instr.lookup t (.map (some b)) (.string (kk j)) true).run Tryz.prog w = .ok (.tuple #[(mp j).getD zv, .bool (mp j).isSome]) w := by
  obtain ⟨D, hown, hm⟩ := hp
  obtain ⟨v, ps, hrun, hv⟩ := hown.look_ok kidS hT.u (hT.z w) (show rdVS zv = some (.held zv, []) from rfl) (key_idS hj)
  rw [hm.val j hj] at hv
  simp only [rdVS, Option.some.injEq, Prod.mk.injEq, DataW.held.injEq] at hv
  rw [hrun, hv.1, hm.has j hj]
theorem ymlS (hT : MapTyS t e zv) (hM : Mem G w0 L R w) (hj : j < 2) (hv : (mp j).getD zv = v) (ho : o.op = .lookup t x y false := by rfl) (hx : a.eval x = .map (some b) := by rfl) (hy : a.eval y = .string (kk j) := by rfl) (hR : mapTS b mp ∈ R := by repeat (first | exact List.Mem.head _ | assumption | apply List.Mem.tail)) : (execOp a.eval o).run Tryz.prog w = .ok (.value v) w := by
  unfold execOp
  simp only [ho, hx, hy, Sem.run_bind, look_runS hT hj (hM.thing _ hR), Result.andThen_ok, Sem.run_pure, hv]
theorem ymkS (hT : MapTyS t e zv) (hM : Mem G w0 L R w) (hj : j < 2) {k : Bool} (hv : (mp j).getD zv = v) (hk : (mp j).isSome = k) (ho : o.op = .lookup t x y true := by rfl) (hx : a.eval x = .map (some b) := by rfl) (hy : a.eval y = .string (kk j) := by rfl) (hR : mapTS b mp ∈ R := by repeat (first | exact List.Mem.head _ | assumption | apply List.Mem.tail)) : (execOp a.eval o).run Tryz.prog w = .ok (.value (.tuple #[v, .bool k])) w := by
  unfold execOp
  simp only [ho, hx, hy, Sem.run_bind, look_ok_runS hT hj (hM.thing _ hR), Result.andThen_ok, Sem.run_pure, hv, hk]
theorem nmuS {F : Thing → List Thing} (hM : Mem G w0 L R w) (hT : MapTyS t e zv) (hj : j < 2) (h : ∀ w', Mem G w0 L (F (mapTS b (updM mp j (some v)))) w' → wpList Tryz.prog ops Q rest (a.put o.dst undef) w') (hgd : o.guard = none := by rfl) (ho : o.op = .mapUpdate t x y z := by rfl) (hx : a.eval x = .map (some b) := by rfl) (hy : a.eval y = .string (kk j) := by rfl) (hz : a.eval z = v := by rfl) (hR : UpdR (mapTS b mp) R F := by repeat (first | exact UpdR.head _ _ | assumption | apply UpdR.tail)) : wpList Tryz.prog ops Q (o :: rest) a w := by
  obtain ⟨D, hown, hm⟩ := hM.thing _ (mem_of_updR hR)
  refine wpList_mapUpdate_own w hgd x y z t ho 9 e kidS hT.u _ b 2 D hx hown (by unfold maxLen; omega) _ _ _ hy hz (key_idS hj) _ [] (show rdVS v = some (.held v, []) from rfl) fun w' h1 h2 => h w' (hM.turn hR ?_)
  have hm' := hm.put (hown.tidy kidS) hj v
  exact ⟨⟨_, owns_elevenS h1 hm', hm'⟩, kept_grownS h2, fun _ hg => .inl hg⟩
theorem nmdS {F : Thing → List Thing} {k : TypeId} (hM : Mem G w0 L R w) (hT : MapTyS t e zv) (hj : j < 2) (h : ∀ w', Mem G w0 L (F (mapTS b (updM mp j none))) w' → wpList Tryz.prog ops Q rest (a.put o.dst (.tuple #[])) w') (hk : k = 9 := by rfl) (hgd : o.guard = none := by rfl) (ho : o.op = .call { callee := .builtin .delete, args := #[x, y], argTypes := #[t, k] } := by rfl) (hx : a.eval x = .map (some b) := by rfl) (hy : a.eval y = .string (kk j) := by rfl) (hR : UpdR (mapTS b mp) R F := by repeat (first | exact UpdR.head _ _ | assumption | apply UpdR.tail)) : wpList Tryz.prog ops Q (o :: rest) a w := by
  subst hk
  obtain ⟨D, hown, hm⟩ := hM.thing _ (mem_of_updR hR)
  refine wpList_delete_own w hgd x y t _ ho e kidS hT.u _ b 2 D hx hown _ _ hy (key_idS hj) fun w' h1 h2 => h w' (hM.turn hR ?_)
  have hm' := hm.del (hown.tidy kidS) hj
  exact ⟨⟨_, owns_elevenS h1 hm', hm'⟩, kept_grownS h2.grown, fun _ hg => .inl hg⟩
theorem nmnS (hM : Mem G w0 L R w) (hT : MapTyS t e zv) (h : wpList Tryz.prog ops Q rest (a.put o.dst (.int .i64 (cntS mp : Nat))) w) (hgd : o.guard = none := by rfl) (ho : o.op = .call { callee := .builtin .len, args := #[x], argTypes := #[t] } := by rfl) (hx : a.eval x = .map (some b) := by rfl) (hR : mapTS b mp ∈ R := by repeat (first | exact List.Mem.head _ | assumption | apply List.Mem.tail)) : wpList Tryz.prog ops Q (o :: rest) a w := by
  obtain ⟨D, hown, hm⟩ := hM.thing _ hR
  refine wpList_len_own w hgd x t ho 9 e hT.u _ b 2 D hx hown ?_
  rw [hm.size]
  exact h
end
end Go.Proofs.YtlidpdjainmaiaaGreatDoor
