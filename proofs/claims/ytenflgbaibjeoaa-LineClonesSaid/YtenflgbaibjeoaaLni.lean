/- A row of packets made longer by one. -/
import Derived.Test.YtenflgbaibjeoaaLnk
import Derived.Great.BuildSlice
namespace Go.Proofs.Ytenflgbaibjeoaa
open Go Go.RowKit Go.Bul Go.Thg Go.Lin
section
variable {w w0 : World} {G : List Nat} {L : List Ent} {R : List Thing} {ops : Array Oper} {rest : List Oper} {o : Oper} {a : Act} {Q : Exit → Act → World → Prop} {s x : Operand} {pv v : Value} {m : Int} {g : Nat} {way : List (List Nat × Int)} {pvs : List Value} {F : Thing → List Thing} {A : Option Addr} {n c : Nat}
theorem run_pkt (A : Option Addr) (n c : Nat) (m : Int) (w : World) : (Instr.buildSlice 83 1 #[(0, .agg #[.slice A n c, .int .i64 m])]).run Try.prog w = .ok (.slice (some ⟨w.heap.size, 0, none⟩) 1 1) (w.alloc (.cells #[.slice A n c, .int .i64 m] 99)) := by
  have h := info_pkt
  cases hq : Try.prog.info? 99 with
  | none => rw [hq] at h; simp at h
  | some i =>
    rw [hq] at h
    simp only [Option.map_some, Option.some.injEq, Prod.mk.injEq] at h
    refine run_buildSlice w _ _ 1 _ _ i _ Try.underlying83 hq h.1 (by rw [h.2.1]; decide) (by rw [h.2.1]; decide) ?_
    rw [h.2.1]
    have hz : Array.map (fun x => (Value.agg #[Value.slice none 0 0, Value.int IntKind.i64 0]).cells[x % (Value.agg #[Value.slice none 0 0, Value.int IntKind.i64 0]).cells.size]!) (Array.range (1 * 2)) = #[Value.slice none 0 0, Value.int IntKind.i64 0] := by kernel_rfl
    rw [hz]
    simp [Instr.fill, Value.cells]
/-- A slice of one packet, written out. -/
theorem lbp (hM : Mem G w0 L R w) (h : ∀ g w', Mem G w0 (⟨g, 99, 2, #[.slice A n c, .int .i64 m]⟩ :: L) R w' → wpList Try.prog ops Q rest (a.put o.dst (.slice (some ⟨g, 0, none⟩) 1 1)) w')
    (hgd : o.guard = none := by rfl) (ho : o.op = .buildSlice 83 1 #[(0, x)] := by rfl) (hx : a.eval x = .agg #[.slice A n c, .int .i64 m] := by rfl) : wpList Try.prog ops Q (o :: rest) a w := by
  refine wpList_plain hgd fun K hK => ?_
  unfold Oper.wp execOp
  simp only [ho, List.map_toArray, List.map_cons, List.map_nil, hx, Sem.run_bind, run_pkt, Result.andThen_ok]
  exact hK _ _ (h _ _ (hM.alloc _ _ rfl))
/-- It is put behind a row of packets. -/
theorem lap (bs : List Nat) (hM : Mem G w0 (⟨g, 99, 2, #[.slice A n c, .int .i64 m]⟩ :: L) (pkT v pvs way :: R) w) (hl : pvs.length = way.length) (h63 : way.length ≤ 100000000)
    (h : ∀ A' N c' w', Hid (N = (way ++ [(bs, m)]).length) → Mem G w0 (⟨g, 99, 2, #[.slice A n c, .int .i64 m]⟩ :: L) (pkT (.slice A' N c') (pvs ++ [.slice A n c]) (way ++ [(bs, m)]) :: R) w' → wpList Try.prog ops Q rest (a.put o.dst (.slice A' N c')) w')
    (hgd : o.guard = none := by rfl) (ho : o.op = .call { callee := .builtin .append, args := #[s, x], argTypes := #[83, 83] } := by rfl) (hv : a.eval s = v := by rfl) (hx : a.eval x = .slice (some ⟨g, 0, none⟩) 1 1 := by rfl) : wpList Try.prog ops Q (o :: rest) a w := by
  have hB : Blk w g 99 #[.slice A n c, .int .i64 m] := hM.blk (List.Mem.head _)
  have hs : Src Try.prog 2 83 (.slice (some ⟨g, 0, none⟩) 1 1) 1 [.slice A n c, .int .i64 m] w := by
    refine Src.ofSlice w Try.underlying83 _ 1 1 _ rfl (fun j u hu => ?_) (by simp [Value.oneCell'])
    rw [addr_at]
    exact (hB.cell _).trans (by rw [Nat.zero_add]; simpa using hu)
  refine wpList_append_thing hM 83 83 99 _ 2 32 Try.underlying83 info_pkt rfl hgd s x ho v hv way.length (pktCells pvs way) _ (UpdR.head _ _) _ hx 1 _ hs (by omega) (by decide) fun A' N c' w' hN hm => ?_
  refine h A' N c' w' (Lib.hid (by simp [hN])) ?_
  have e : pkT (.slice A' N c') (pvs ++ [.slice A n c]) (way ++ [(bs, m)]) = rowT 99 2 (.slice A' N c') N (pktCells pvs way ++ [.slice A n c, .int .i64 m]) := by
    unfold pkT
    rw [pktCells_snoc hl, hN]
    simp
  rw [e]
  exact hm
theorem way_snoc {bs : List Nat} (h : Mem G w0 L (pkT v (pvs ++ [pv]) (way ++ [(bs, m)]) :: (pktRows pvs way ++ bT pv bs :: R)) w) (hl : pvs.length = way.length) : ∃ fp, Mem G w0 L (wayT fp v (way ++ [(bs, m)]) :: R) w := by
  refine way_close (pvs := pvs ++ [pv]) ?_ (by simp [hl])
  rw [pktRows_snoc hl, List.append_assoc]
  exact h
/-- The first packet of a row that is not empty, beside a row of bytes. -/
theorem pk_form {w : World} (h : (pkT v pvs way).P w) : ∃ A c, v = .slice A way.length c ∧ way.length ≤ c := by
  obtain ⟨A, c, h1, h2, _⟩ := OffRow.form h
  exact ⟨A, c, h1, h2⟩
theorem way_head {fp : List Nat} {b : List Nat} {u : Value} {xs : List Nat} (h : Mem G w0 L (wayT fp (.slice A n c) ((b, m) :: way) :: bT u xs :: R) w) :
    ∃ g off pvs Ab cb, A = some ⟨g, off, none⟩ ∧ pvs.length = way.length ∧ way.length + 1 ≤ c ∧ n = way.length + 1 ∧ Mem G w0 L (bT u xs :: pkT (.slice (some ⟨g, off, none⟩) (way.length + 1) c) (.slice Ab b.length cb :: pvs) ((b, m) :: way) :: bT (.slice Ab b.length cb) b :: (pktRows pvs way ++ R)) w := by
  obtain ⟨pvs, hl, h1⟩ := way_open h
  cases pvs with
  | nil => simp at hl
  | cons pv pvs =>
    have h2 : Mem G w0 L (pkT (.slice A n c) (pv :: pvs) ((b, m) :: way) :: bT pv b :: (pktRows pvs way ++ bT u xs :: R)) w := h1
    have hp := h2.thing _ (List.Mem.head _)
    obtain ⟨A', c', he, hc⟩ := pk_form hp
    have e1 : A = A' := by injection he
    have e2 : n = way.length + 1 := by have : n = ((b, m) :: way).length := by injection he
                                       simpa using this
    have e3 : c = c' := by injection he
    subst e1 e2 e3
    obtain ⟨g, off, rfl, _⟩ := OffRow.cells (xs := pktCells (pv :: pvs) ((b, m) :: way)) hp (by simp)
    obtain ⟨Ab, cb, rfl, _⟩ := bT_form (h2.thing _ (List.Mem.tail _ (List.Mem.head _)))
    exact ⟨g, off, pvs, Ab, cb, rfl, by simpa using hl, by simpa using hc, rfl, Mem.toFront (pkT _ _ _ :: bT _ _ :: pktRows pvs way) h2⟩
/-- Its cells. -/
theorem pk_cells {b : List Nat} {off : Nat} (hp : (pkT (.slice (some ⟨g, off, none⟩) (way.length + 1) c) (pv :: pvs) ((b, m) :: way)).P w) :
    w.cell? ⟨g, off, none⟩ = some pv ∧ w.cell? ⟨g, off + 1, none⟩ = some (.int .i64 m) := by
  obtain ⟨g', off', he, _, h, _⟩ := OffRow.cells (xs := pktCells (pv :: pvs) ((b, m) :: way)) hp (by simp)
  injection he with he
  injection he with e1 e2 _
  subst e1 e2
  exact ⟨h 0 _ rfl, h 1 _ rfl⟩
/-- It is gone. -/
theorem way_tail {b : List Nat} {u : Value} {xs : List Nat} (h : Mem G w0 L (bT u xs :: pkT (.slice A (way.length + 1) c) (pv :: pvs) ((b, m) :: way) :: bT pv b :: (pktRows pvs way ++ R)) w) (hl : pvs.length = way.length) :
    ∃ fp, Mem G w0 L (wayT fp (.slice (advA A 1 c 2) way.length (c - 1)) way :: bT u xs :: R) w := by
  have hp := h.thing _ (List.Mem.tail _ (List.Mem.head _))
  obtain ⟨h1, h2⟩ := OffRow.adv (xs := pktCells (pv :: pvs) ((b, m) :: way)) hp 1 (by simp)
  have hb : Becomes (pkT (.slice A (way.length + 1) c) (pv :: pvs) ((b, m) :: way)).fp w (pkT (.slice (advA A 1 c 2) way.length (c - 1)) pvs way) w := ⟨h1, KeptBut.refl _ _, fun g hg => .inl (h2 g hg)⟩
  have h3 := h.turn (UpdR.tail _ (UpdR.head _ _)) hb
  have h4 : Mem G w0 L (bT u xs :: pkT (.slice (advA A 1 c 2) way.length (c - 1)) pvs way :: (pktRows pvs way ++ R)) w := h3.subR (List.Sublist.cons_cons _ (List.Sublist.cons_cons _ (List.sublist_cons_self _ _)))
  exact way_close (Mem.fromFront (pkT _ _ _ :: pktRows pvs way) h4) hl
/-- It is put back. -/
theorem way_shut {b : List Nat} {u : Value} {xs : List Nat} (h : Mem G w0 L (bT u xs :: pkT (.slice A (way.length + 1) c) (pv :: pvs) ((b, m) :: way) :: bT pv b :: (pktRows pvs way ++ R)) w) (hl : pvs.length = way.length) :
    ∃ fp, Mem G w0 L (wayT fp (.slice A (way.length + 1) c) ((b, m) :: way) :: bT u xs :: R) w := by
  have h1 : Mem G w0 L (pkT (.slice A (way.length + 1) c) (pv :: pvs) ((b, m) :: way) :: (pktRows (pv :: pvs) ((b, m) :: way) ++ bT u xs :: R)) w := Mem.fromFront (pkT _ _ _ :: bT _ _ :: pktRows pvs way) h
  exact way_close h1 (by simp [hl])
theorem size_pkt : (Try.prog.info? 99).map (·.size) = some 2 := by kernel_rfl
end
end Go.Proofs.Ytenflgbaibjeoaa
