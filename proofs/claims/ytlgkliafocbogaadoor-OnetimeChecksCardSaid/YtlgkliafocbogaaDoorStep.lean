/- The heap predicate in the steps of a region that draws its order: stores, appends, blocks laid anew. -/
import Derived.Test.YtlgkliafocbogaaDoorTwo
import Derived.Deep.RegionLaw
namespace Go.Bul
open Go Go.RowKit
section
variable {P : Program} {ops : Array Oper} {Q : Exit → Act → World → Prop} {G : List Nat} {w0 w : World} {L : List Ent} {R : List OwnR} {o : Oper} {a : Act} {K : Act → World → Prop} {E : Prop}
theorem step_plain (hgd : o.guard = none) (h : o.wp P a w K Q) : if Region.wanted o (yielded ops a.tmps) = true then o.wp P a w K Q else E := by
  rw [if_pos (wanted_plain hgd)]
  exact h
theorem owp_new (k : IntKind) (xs : List Nat) {cs : Array Value} {t : TypeId} (hM : Mem G w0 L R w) (hcs : cs = cellsOf k xs) (h : ∀ w', Mem G w0 (⟨w.heap.size, t, xs.length, cellsOf k xs⟩ :: L) R w' → o.wp P a w' K Q) : o.wp P a (w.alloc (.cells cs t)) K Q :=
  h _ (by rw [hcs]; exact hM.alloc _ _ (by simp))
theorem owp_new_drew (k : IntKind) (xs : List Nat) {cs : Array Value} {t : TypeId} (hM : Mem G w0 L R w.drew) (hcs : cs = cellsOf k xs) (h : ∀ w', Mem G w0 (⟨w.heap.size, t, xs.length, cellsOf k xs⟩ :: L) R w' → o.wp P a w' K Q) : o.wp P a (w.alloc (.cells cs t)).drew K Q :=
  h _ (by rw [hcs]; exact hM.alloc _ _ (by simp))
theorem store_run (hM : Mem G w0 L R w) {g : Nat} {t : TypeId} {n : Nat} {cs vs : Array Value} (hL : ⟨g, t, n, cs⟩ ∈ L) (hv : vs.size = n) (h1 : ∀ v ∈ vs.toList, v.oneCell' = true) : (storeCells ⟨g, 0, none⟩ vs.toList).run P w = .ok () (w.setRow g vs) := by
  have hb := hM.blk hL
  have hs := hM.size hL
  simp only at hb hs
  have hst := run_storeCells_at P g 0 t vs.toList 0 cs w hb (by simp; omega) h1
  have e : (cs.toList.take (0 + 0) ++ vs.toList ++ cs.toList.drop (0 + 0 + vs.toList.length)).toArray = vs := by
    apply Array.ext'
    simp [hv, ← hs]
  rw [e] at hst
  exact hst
theorem Mem.putRow (hM : Mem G w0 L R w) {g : Nat} {t : TypeId} {n : Nat} {cs vs : Array Value} {F : Array Value → List Ent} (hL : UpdL g t n cs L F) (hv : vs.size = n) : Mem G w0 (F vs) R (w.setRow g vs) := by
  have hin : (⟨g, t, n, cs⟩ : Ent) ∈ L := by obtain ⟨A, B, rfl, _⟩ := hL; simp
  exact hM.put hL ((Only.refl g w).setRow vs) ((hM.blk hin).row vs) hv
end
end Go.Bul
namespace Go.Proofs.YtlgkliafocbogaaDoor
open Go Go.RowKit Go.Bul
theorem owp_bytes {G : List Nat} {w0 w : World} {L : List Ent} {R : List OwnR} {o : Oper} {a : Act} {K : Act → World → Prop} {Q : Exit → Act → World → Prop}
    (hM : Mem G w0 L R w) (s x : Operand) (t : TypeId) (ho : o.op = .call { callee := .builtin .append, args := #[s, x], argTypes := #[t, t] }) (ht : Tryd.prog.underlying t = some (.slice 5))
    (v : Value) (hs : a.eval s = v) (xs : List Nat) (F : OwnR → List OwnR) (hR : UpdR (brow v xs) R F) (A : Option Addr) (m c : Nat) (hx : a.eval x = .slice A m c) (ok : Nat → Prop) (ys : List Nat) (hr : Rd w ok A m ys) (h63 : xs.length + ys.length ≤ 140737488355328)
    (h : ∀ A' N c' w', Hid (N = (xs ++ ys).length) → Mem G w0 L (F (brow (.slice A' N c') (xs ++ ys))) w' → K (a.put o.dst (.slice A' N c')) w') : o.wp Tryd.prog a w K Q := by
  have hl := hr.len
  have hown := brow_own hM (mem_of_updR hR)
  obtain ⟨A', c', w', hrun, h2, h3, h4⟩ := run_append_src (P := Tryd.prog) w0.heap.size t o.type 5 (.int .u8 0) 1 1 ht info_u8 rfl (by decide) v xs.length (vals .u8 xs) hown A m c (vals .u8 ys) (by simp [hl]) (fun hm => by
    obtain ⟨ad, hA, _⟩ := hr.at_ hm
    exact ⟨ad, hA, by have := hr.cells ys.length hA; rwa [List.take_of_length_le (Nat.le_refl _)] at this⟩) (vals_one _ _) (by unfold maxLen; omega) (by omega) hM.le
  have e : xs.length + m = (xs ++ ys).length := by simp [hl]
  rw [e] at h2 h4 hrun
  have h2' : OwnB w' w0.heap.size (.slice A' (xs ++ ys).length c') (xs ++ ys) := by unfold OwnB; rwa [show vals .u8 (xs ++ ys) = vals .u8 xs ++ vals .u8 ys by simp [vals]]
  unfold Oper.wp execOp
  simp only [ho, resolve, invoke, builtin, Sem.run_bind, Sem.run_pure, Result.andThen_ok, List.map_toArray, List.map_cons, List.map_nil, hs, hx, hrun]
  exact h A' _ c' w' (Lib.hid rfl) (hM.rowPut hR h3 h2' h4)
end Go.Proofs.YtlgkliafocbogaaDoor
