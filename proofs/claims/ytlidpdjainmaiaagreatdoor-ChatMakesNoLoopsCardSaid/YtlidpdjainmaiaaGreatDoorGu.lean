/- Seat c: strings.Builder: String. -/
import Derived.Test.YtlidpdjainmaiaaGreatDoorGt
namespace Go.Thg
open Go Go.RowKit Go.Bul
/-- A block of which nothing is known any more. -/
def goneT (g : Nat) : Thing where
  fp := [g]
  P := fun w => g < w.heap.size
  keep := fun w w' h hp => by
    have hg := h g (List.mem_singleton.2 rfl)
    rw [Array.getElem?_eq_getElem hp] at hg
    exact (Array.getElem?_eq_some_iff.1 hg).1
  lt := fun w hp k hk => by
    obtain rfl := List.mem_singleton.1 hk
    exact hp
  nd := fun _ _ => by simp
theorem kept_freeze (w : World) (g o n : Nat) : KeptBut [g] w (w.freeze ⟨g, o, none⟩ n) := by
  unfold World.freeze
  split
  · exact KeptBut.refl _ _
  · exact ⟨rfl, rfl, rfl, by simp, fun k _ hn => by
      simp only [Array.getElem?_modify]
      rw [if_neg (fun e => hn (by rw [← e]; exact List.mem_singleton.2 rfl))]⟩
theorem size_freeze (w : World) (g o n : Nat) : (w.freeze ⟨g, o, none⟩ n).heap.size = w.heap.size := by
  unfold World.freeze
  split <;> simp
end Go.Thg
namespace Go.Proofs.YtlidpdjainmaiaaGreatDoor
open Go Go.RowKit Go.Bul Go.Thg Go.Lin Go.Cht
theorem cells_u8 : Tryz.prog.cellsOf 5 = 1 := by kernel_rfl
section
variable {w w0 : World} {G : List Nat} {L : List Ent} {R : List Thing} {FR : Thing → List Thing} {ops : Array Oper} {rest : List Oper} {o : Oper} {a : Act} {Q : Exit → Act → World → Prop} {x y : Operand}
/-- Where the bytes lie. -/
theorem ysd {g n c : Nat} (hc : 0 < c) (ho : o.op = .call { callee := .builtin .unsafeSliceData, args := #[x], argTypes := #[61] } := by rfl) (hx : a.eval x = .slice (some ⟨g, 0, none⟩) n c := by rfl) : (execOp a.eval o).run Tryz.prog w = .ok (.value (.pointer (some ⟨g, 0, none⟩))) w := by
  have h := Lib.run_unsafeSliceData_row (P := Tryz.prog) (w := w) #[61] o.type ⟨g, 0, none⟩ n c (by omega)
  unfold execOp
  simp only [ho, resolve, invoke, builtin, Sem.run_bind, Sem.run_pure, Result.andThen_ok, List.map_toArray, List.map_cons, List.map_nil, hx, h]
theorem unsafe_run {g c : Nat} {l : List Nat} (hP : (bT (.slice (some ⟨g, 0, none⟩) l.length c) l).P w) (hB : Bytes l) (h0 : 0 < l.length) (h9 : l.length ≤ 1000000000) (ty : TypeId) : (Builtin.unsafeString_ #[83, 3] ty #[.pointer (some ⟨g, 0, none⟩), .int .i64 (l.length : Nat)]).run Tryz.prog w = .ok (.string (bstr l)) (w.freeze ⟨g, 0, none⟩ l.length) := by
  obtain ⟨h1, A, c', he, hnc, hcm, hblk⟩ := hP
  obtain ⟨g', off, cur, hA, hg, hsz, hcur⟩ := hblk (by injection he with e1 e2 e3; omega)
  have e1 : some (⟨g, 0, none⟩ : Addr) = A := by injection he
  have e2 : c = c' := by injection he
  subst e1 e2
  injection hA with hA
  have e3 : g = g' := by injection hA
  have e4 : 0 = off := by injection hA
  subst e3 e4
  have hl : (l.map UInt8.ofNat).length = l.length := List.length_map ..
  have h := Lib.run_unsafeString_row (P := Tryz.prog) w 83 3 ty 5 Tryz.underlying83 cells_u8 g cur.size (by simp [World.shape?, hg]) (l.map UInt8.ofNat) (by intro h; rw [h] at hl; simp at hl; omega) (by rw [hl]; omega) (by rw [hl]; omega) (fun j x hx => by
    rw [addr_at, Nat.zero_add, cell_of_row w g j cur 5 (0, 0) hg]
    have hj : j < l.length := by rw [← hl]; exact (List.getElem?_eq_some_iff.1 hx).1
    have h2 := hcur j (by omega)
    rw [Nat.zero_add] at h2
    rw [h2, rows_by]
    rw [List.getElem?_map, List.getElem?_eq_getElem hj] at hx
    injection hx with hx
    subst hx
    simp only [vals, List.getElem?_map, List.getElem?_eq_getElem hj, Option.map_some]
    have := hB _ (List.getElem_mem hj)
    simp
    omega)
  rw [hl] at h
  exact h
/-- The bytes become a text. -/
theorem gus {g n c : Nat} {l : List Nat} (hM : Mem G w0 L R w) (hn : n = l.length) (hB : Bytes l) (h0 : 0 < l.length) (h9 : l.length ≤ 1000000000) (h : ∀ w', Mem G w0 L (FR (goneT g)) w' → wpList Tryz.prog ops Q rest (a.put o.dst (.string (bstr l))) w') (hgd : o.guard = none := by rfl) (ho : o.op = .call { callee := .builtin .unsafeString, args := #[x, y], argTypes := #[83, 3] } := by rfl) (hx : a.eval x = .pointer (some ⟨g, 0, none⟩) := by rfl) (hy : a.eval y = .int .i64 (n : Nat) := by rfl) (hR : UpdR (bT (.slice (some ⟨g, 0, none⟩) n c) l) R FR := by repeat (first | exact UpdR.head _ _ | assumption | apply UpdR.tail)) : wpList Tryz.prog ops Q (o :: rest) a w := by
  subst hn
  have hP := hM.thing _ (mem_of_updR hR)
  have hr := unsafe_run hP hB h0 h9 o.type
  have hc : 0 < c := by have := gT_len hP; omega
  refine wpList_plain hgd fun K hK => ?_
  unfold Oper.wp execOp
  simp only [ho, resolve, invoke, builtin, Sem.run_bind, Sem.run_pure, Result.andThen_ok, List.map_toArray, List.map_cons, List.map_nil, hx, hy, hr]
  refine hK _ _ (h _ (hM.turn hR ?_))
  have e5 : (bT (.slice (some ⟨g, 0, none⟩) l.length c) l).fp = [g] := sFp_pos hc
  rw [e5]
  refine ⟨?_, kept_freeze _ _ _ _, fun k hk => .inl hk⟩
  show g < _
  rw [size_freeze]
  exact (bT (.slice (some ⟨g, 0, none⟩) l.length c) l).lt w hP g (by rw [e5]; exact List.mem_singleton.2 rfl)
end
section
variable {w w0 : World} {G : List Nat} {L : List Ent} {R : List Thing} {FR : Thing → List Thing}
set_option maxRecDepth 20000 in
set_option maxHeartbeats 2000000 in
theorem bstring_any (b g n c : Nat) (p : Value) (l : List Nat) (hM : Mem G w0 L R w) (hL : ⟨b, 63, 2, #[p, .slice (some ⟨g, 0, none⟩) n c]⟩ ∈ L) (hR : UpdR (bT (.slice (some ⟨g, 0, none⟩) n c) l) R FR) (hB : Bytes l) (h0 : 0 < l.length) (h9 : l.length ≤ 1000000000) :
    Calls Tryz.prog 25 #[pbl b] w fun e w' => e = .returned (.string (bstr l)) ∧ Mem G w0 L (FR (goneT g)) w' := by
  obtain ⟨hn, hnc⟩ := gT_len (hM.thing _ (mem_of_updR hR))
  have HC := Lib.hid (show 0 < c by omega)
  have HN := Lib.hid hn
  have HH := Lib.hid (And.intro hB (And.intro h0 h9))
  clear hn hnc hB h0 h9
  go_enter Tryz.func25, Tryz.ntmps25
  go_wp2_with fail
  refine wp_region_allB hM 10 (by kernel_rfl) ?_
  clear hM
  intro wd hM
  have HM0 := Lib.hid hM
  have hS := Below.refl wd.heap.size wd
  refine wpAllT_takes [0, 1, 2, 3, 4, 5, 6, 7, 8, 9] (by kernel_rfl) (fun _ _ _ _ _ h => h) hS (by kernel_rfl) ?_
  simp only [pickOps, List.filterMap_cons, List.filterMap_nil, List.getElem?_cons_zero, List.getElem?_cons_succ]
  repeat ((with_reducible apply wpHeld_step); (· rfl); (· (intro wq hSw; first | (go_simp; rfl) | (have hM' := HM0.out.step hSw; first | exact yields_load (C := fun _ => True) (nqc hM') rfl | exact yields_load (C := fun _ => True) (nql hM') rfl | exact yields_load (C := fun _ => True) (nqp hM') rfl | exact ysd HC.out))); intro K hK; go_simp; (with_reducible refine hK _ ?_); clear hK K)
  refine wpHeld_nil ?_
  refine wpAllT_one 10 rfl (by kernel_rfl) ?_
  refine gus hM HN.out HH.out.1 HH.out.2.1 HH.out.2.2 ?_
  clear hM HM0 hS
  intro wy hM
  refine wpList_then ⟨.inl (by kernel_rfl), wpAllT_drop (by kernel_rfl) ?_⟩
  refine wpAll_takes [11] (by kernel_rfl) (fun _ _ _ _ _ h => h) (by kernel_rfl) ?_
  simp only [pickOps, List.filterMap_cons, List.filterMap_nil, List.getElem?_cons_zero, List.getElem?_cons_succ]
  repeat ((with_reducible apply wpPure_step); (· rfl); (· (intro w; go_simp; rfl)); intro K hK; go_simp; (with_reducible refine hK _ ?_); clear hK K)
  refine wpPure_nil ?_
  refine wpAll_done (by kernel_rfl) ?_
  go_wp2_with fail
  go_ret
  exact ⟨rfl, hM⟩
end
end Go.Proofs.YtlidpdjainmaiaaGreatDoor
