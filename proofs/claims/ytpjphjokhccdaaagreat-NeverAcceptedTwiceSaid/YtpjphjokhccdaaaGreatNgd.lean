/- Seat n: rows of structs that begin with an id, as things; append, loads, stores. -/
import Derived.Test.YtpjphjokhccdaaaGreatNgc
import Derived.Laws.BytesArg
import Derived.Lib.SliceRun
import Derived.Lib.Hide
import Derived.Great.BuildSlice
namespace Go.Thg
open Go Go.RowKit Go.Bul
/-- Where the rest of a slice begins. -/
def advA (A : Option Addr) (k c size : Nat) : Option Addr := if c = k then A else A.map (·.add (k * size))
theorem OffRow.adv {w : World} {e : TypeId} {size : Nat} {A : Option Addr} {n c : Nat} {xs : List Value} (h : OffRow w e size (.slice A n c) n xs) (k : Nat) (hk : k ≤ n) :
    OffRow w e size (.slice (advA A k c size) (n - k) (c - k)) (n - k) (xs.drop (k * size)) ∧ (∀ g ∈ sFp (.slice (advA A k c size) (n - k) (c - k)), g ∈ sFp (.slice A n c)) := by
  obtain ⟨A', h1, h2, h3, h4⟩ := h.rest k hk
  have he : advA A k c size = A' := by
    unfold advA
    obtain ⟨_, B, d, hb, hnd, _, h5⟩ := h
    have e1 : A = B := by injection hb
    have e2 : c = d := by injection hb
    subst e1 e2
    by_cases hc : k < c
    · obtain ⟨g, off, cur, rfl, _⟩ := h5 (by omega)
      rw [if_neg (by omega), h3 hc g off rfl]
      simp [addr_at]
    · rw [if_pos (by omega), h4 (by omega)]
  rw [he]
  exact ⟨h1, h2⟩
/-- The beginning of such a slice reads as the beginning. -/
theorem Reads.take {w : World} {size : Nat} {A : Option Addr} {n : Nat} {xs : List Value} (h : Reads w size A n xs) (k : Nat) (hk : k ≤ n) : Reads w size A k (xs.take (k * size)) := by
  have hm : k * size ≤ n * size := Nat.mul_le_mul_right _ hk
  refine ⟨by rw [List.length_take, h.1]; omega, fun h0 => ?_⟩
  obtain ⟨g, off, h1, h2, h3⟩ := h.2 (by omega)
  refine ⟨g, off, h1, h2, fun j u hu => h3 j u ?_⟩
  rw [List.getElem?_take] at hu
  split at hu
  · exact hu
  · cases hu
section
variable {P : Program} {w w0 : World} {G : List Nat} {L : List Ent} {R : List Thing} {ops : Array Oper} {rest : List Oper} {o : Oper} {a : Act} {Q : Exit → Act → World → Prop}
theorem run_slice_lo (t e : TypeId) (size : Nat) (ht : P.underlying t = some (.slice e)) (hs : (P.info? e).map (·.size) = some size) (A : Option Addr) (n c k : Nat) (hk : k ≤ n) (_hn : n ≤ c) (W : World) :
    (Instr.sliceAt t (.slice A n c) (some (.int .i64 (k : Nat))) none none).run P W = .ok (.slice (advA A k c size) (n - k) (c - k)) W := by
  have h1 : (0 : Int) ≤ (k : Int) ∧ (k : Int) ≤ (n : Int) := ⟨by omega, by omega⟩
  have hz := Go.Bul.run_sizeOf hs W
  simp [Instr.sliceAt, Instr.slice, Instr.sliceBounds, Instr.sliceBound, asIntOf, run_underlying ht, Sem.run_bind, h1, hz, advA]
  intro h
  omega
theorem run_slice_hi (t e : TypeId) (size : Nat) (ht : P.underlying t = some (.slice e)) (hs : (P.info? e).map (·.size) = some size) (A : Option Addr) (n c k : Nat) (hk : k ≤ c) (W : World) :
    (Instr.sliceAt t (.slice A n c) none (some (.int .i64 (k : Nat))) none).run P W = .ok (.slice (advA A 0 c size) k c) W := by
  have h1 : (0 : Int) ≤ (k : Int) ∧ (k : Int) ≤ (c : Int) := ⟨by omega, by omega⟩
  have hz := Go.Bul.run_sizeOf hs W
  simp [Instr.sliceAt, Instr.slice, Instr.sliceBounds, Instr.sliceBound, asIntOf, run_underlying ht, Sem.run_bind, h1, hz, advA]
  intro h
  omega
theorem at_slice {dst : Option Tmp} {type : TypeId} {pos : String} {after : Array Edge} {t : TypeId} {x : Operand} {lo hi mx : Option Operand} (h : wpList P ops Q (⟨dst, .slice t x lo hi mx, type, pos, after, none⟩ :: rest) a w) : wpList P ops Q (⟨dst, .slice t x lo hi mx, type, pos, after, none⟩ :: rest) a w := h
theorem wpList_run {f : Sem Value} {v : Value} (hgd : o.guard = none) (ho : execOp a.eval o = (do pure (Next.value (← f)))) (hr : f.run P w = .ok v w) (h : wpList P ops Q rest (a.put o.dst v) w) : wpList P ops Q (o :: rest) a w :=
  wpList_plain hgd fun K hK => by
    unfold Oper.wp
    rw [ho]
    simp only [Sem.run_bind, hr, Result.andThen_ok, Sem.run_pure]
    exact hK _ _ h
/-- append onto a thing. -/
theorem wpList_append_thing (hM : Mem G w0 L R w) (t tx e : TypeId) (z : Value) (size bytes : Nat) (ht : P.underlying t = some (.slice e)) (hi : (P.info? e).map (fun i => (i.zero, i.size, i.bytes)) = some (some z, size, bytes)) (hzs : z.cells.size = size)
    (hgd : o.guard = none) (s x : Operand) (ho : o.op = .call { callee := .builtin .append, args := #[s, x], argTypes := #[t, tx] }) (v : Value) (hv : a.eval s = v) (n : Nat) (xs : List Value) (F : Thing → List Thing) (hR : UpdR (rowT e size v n xs) R F)
    (y : Value) (hy : a.eval x = y) (m : Nat) (news : List Value) (hs : Src P size tx y m news w) (h63 : n + m ≤ 1000000000) (hbytes : bytes ≤ 1000)
    (h : ∀ A' N c' w', N = n + m → Mem G w0 L (F (rowT e size (.slice A' N c') N (xs ++ news))) w' → wpList P ops Q rest (a.put o.dst (.slice A' N c')) w') : wpList P ops Q (o :: rest) a w := by
  have hm : (n + m) * bytes ≤ 1000000000 * 1000 := Nat.mul_le_mul h63 hbytes
  obtain ⟨A', c', w', hrun, hb⟩ := run_append_off (P := P) t tx o.type e z size bytes ht hi hzs v n xs (hM.thing _ (mem_of_updR hR)) y m news hs (by unfold maxLen; omega) (by omega)
  refine wpList_plain hgd fun K hK => ?_
  unfold Oper.wp execOp
  simp only [ho, resolve, invoke, builtin, Sem.run_bind, Sem.run_pure, Result.andThen_ok, List.map_toArray, List.map_cons, List.map_nil, hv, hy, hrun]
  exact hK _ _ (h A' _ c' w' rfl (hM.turn hR hb))
end
end Go.Thg
namespace Go.Lin
open Go Go.Bul
abbrev El := Nat × List Value
abbrev elC (x : El) : Array Value := stC x.1 x.2
def stR (l : List El) : List Value := l.flatMap fun x => (elC x).toList
/-- Tails of one length, of plain cells. -/
def Uni (k : Nat) (l : List El) : Prop := ∀ x ∈ l, x.2.length = k ∧ x.2.all (fun u => u.oneCell') = true
theorem Uni.nil (k : Nat) : Uni k [] := fun _ h => by cases h
theorem Uni.app {k : Nat} {a b : List El} (ha : Uni k a) (hb : Uni k b) : Uni k (a ++ b) := fun x hx => (List.mem_append.1 hx).elim (ha x) (hb x)
theorem Uni.one {k : Nat} {x : El} (h1 : x.2.length = k) (h2 : x.2.all (fun u => u.oneCell') = true) : Uni k [x] := fun y hy => by obtain rfl := List.mem_singleton.1 hy; exact ⟨h1, h2⟩
theorem Uni.set {k i : Nat} {l : List El} (h : Uni k l) {x : El} (hx : Uni k [x]) : Uni k (l.set i x) := fun y hy => by
  rcases List.mem_or_eq_of_mem_set hy with hy | rfl
  · exact h y hy
  · exact hx y (List.mem_singleton.2 rfl)
theorem Uni.sub {k : Nat} {l l' : List El} (h : Uni k l) (hs : ∀ x ∈ l', x ∈ l) : Uni k l' := fun x hx => h x (hs x hx)
theorem stR_app (a b : List El) : stR (a ++ b) = stR a ++ stR b := by simp [stR]
theorem stR_one (x : El) : stR [x] = (elC x).toList := by simp [stR]
theorem elC_len {k : Nat} {x : El} (h : x.2.length = k) : (elC x).toList.length = 32 + k := by rw [Array.length_toList, stC_size, h]
theorem stR_length {k : Nat} : ∀ {l : List El}, Uni k l → (stR l).length = l.length * (32 + k)
  | [], _ => by simp [stR]
  | x :: l, h => by
    have e : stR (x :: l) = (elC x).toList ++ stR l := by simp [stR]
    rw [e, List.length_append, elC_len (h x (List.Mem.head _)).1, stR_length (fun y hy => h y (List.Mem.tail _ hy)), List.length_cons, Nat.add_mul]
    omega
theorem stR_ones {k : Nat} {l : List El} (h : Uni k l) : ∀ u ∈ stR l, u.oneCell' = true := by
  intro u hu
  obtain ⟨x, hx, hx2⟩ := List.mem_flatMap.1 hu
  exact stC_one (h x hx).2 u hx2
theorem stR_get {k : Nat} : ∀ {l : List El}, Uni k l → ∀ (i : Nat) (h : i < l.length) (j : Nat) (u : Value), (elC l[i])[j]? = some u → (stR l)[i * (32 + k) + j]? = some u
  | x :: l, hU, 0, _, j, u, hu => by
    have e : stR (x :: l) = (elC x).toList ++ stR l := by simp [stR]
    have hj := (Array.getElem?_eq_some_iff.1 hu).1
    rw [e, Nat.zero_mul, Nat.zero_add, List.getElem?_append_left (by simpa using hj)]
    simpa using hu
  | x :: l, hU, i + 1, h, j, u, hu => by
    have e : stR (x :: l) = (elC x).toList ++ stR l := by simp [stR]
    have h16 := elC_len (hU x (List.Mem.head _)).1
    have hi : i < l.length := by simpa using h
    rw [e, List.getElem?_append_right (by rw [h16, Nat.add_mul]; omega), h16, show (i + 1) * (32 + k) + j - (32 + k) = i * (32 + k) + j by rw [Nat.add_mul]; omega]
    exact stR_get (fun y hy => hU y (List.Mem.tail _ hy)) i hi j u hu
theorem splice_length {A X : List Value} {p : Nat} (h : p + X.length ≤ A.length) : (splice A p X).length = A.length := by
  simp [splice]; omega
theorem splice_get (A X : List Value) (p j : Nat) (h : p + X.length ≤ A.length) : (splice A p X)[j]? = if p ≤ j ∧ j < p + X.length then X[j - p]? else A[j]? := by
  unfold splice
  by_cases h1 : j < p
  · rw [if_neg (by omega), List.getElem?_append_left (by simp; omega), List.getElem?_take, if_pos h1]
  · rw [List.getElem?_append_right (by simp; omega)]
    have e1 : (A.take p).length = p := by simp; omega
    rw [e1]
    by_cases h2 : j < p + X.length
    · rw [if_pos (by omega), List.getElem?_append_left (by omega)]
    · rw [if_neg (by omega), List.getElem?_append_right (by omega), List.getElem?_drop]
      congr 1
      omega
theorem stR_set {k : Nat} {l : List El} (hU : Uni k l) {i : Nat} (hi : i < l.length) (x : El) : stR (l.set i x) = splice (stR l) (i * (32 + k)) (elC x).toList ∨ x.2.length ≠ k := by
  by_cases hx : x.2.length = k
  · left
    have e : l = l.take i ++ (l[i] :: l.drop (i + 1)) := by rw [List.getElem_cons_drop, List.take_append_drop]
    have e2 : l.set i x = l.take i ++ (x :: l.drop (i + 1)) := by rw [List.set_eq_take_append_cons_drop, if_pos hi]
    have h1 : (stR (l.take i)).length = i * (32 + k) := by
      rw [stR_length (hU.sub fun y hy => List.mem_of_mem_take hy), List.length_take, Nat.min_eq_left (by omega)]
    have h2 : ∀ y, stR (y :: l.drop (i + 1)) = (elC y).toList ++ stR (l.drop (i + 1)) := fun y => by simp [stR]
    have h3 := splice_at (stR (l.take i)) (elC l[i]).toList (stR (l.drop (i + 1))) (elC x).toList (by rw [elC_len hx, elC_len (hU _ (List.getElem_mem hi)).1])
    rw [h1, ← h2, ← stR_app, ← e] at h3
    rw [h3, e2, stR_app, h2]
  · exact .inr hx
end Go.Lin
namespace Go.Proofs.YtpjphjokhccdaaaGreat
open Go Go.RowKit Go.Bul Go.Thg Go.Lin
section
variable {w w0 : World} {G : List Nat} {L : List Ent} {R : List Thing} {ops : Array Oper} {rest : List Oper} {o : Oper} {a : Act} {Q : Exit → Act → World → Prop} {x y : Operand} {A : Option Addr} {n c k i g : Nat} {t ty : TypeId} {cs : Array Value} {v : Value} {T e : TypeId} {size : Nat}
theorem lsl_hi (ht : Tryz.prog.underlying T = some (.slice e)) (hs : (Tryz.prog.info? e).map (·.size) = some size) (hk : k ≤ c) (hA : advA A 0 c size = A) (h : wpList Tryz.prog ops Q rest (a.put o.dst (.slice A k c)) w) (hgd : o.guard = none := by rfl) (ho : o.op = .slice T x none (some y) none := by rfl) (hx : a.eval x = .slice A n c := by rfl) (hy : a.eval y = .int .i64 (k : Nat) := by rfl) : wpList Tryz.prog ops Q (o :: rest) a w :=
  wpList_plain hgd fun K hK => by
    have hr := run_slice_hi T e size ht hs A n c k hk w
    rw [hA] at hr
    unfold Oper.wp execOp
    simp only [ho, hx, hy, Option.map_some, Option.map_none, Sem.run_bind, hr, Result.andThen_ok, Sem.run_pure]
    exact hK _ _ h
theorem lsl_lo (ht : Tryz.prog.underlying T = some (.slice e)) (hs : (Tryz.prog.info? e).map (·.size) = some size) (hk : k ≤ n) (hn : n ≤ c) (h : wpList Tryz.prog ops Q rest (a.put o.dst (.slice (advA A k c size) (n - k) (c - k))) w) (hgd : o.guard = none := by rfl) (ho : o.op = .slice T x (some y) none none := by rfl) (hx : a.eval x = .slice A n c := by rfl) (hy : a.eval y = .int .i64 (k : Nat) := by rfl) : wpList Tryz.prog ops Q (o :: rest) a w :=
  wpList_plain hgd fun K hK => by
    have hr := run_slice_lo T e size ht hs A n c k hk hn w
    unfold Oper.wp execOp
    simp only [ho, hx, hy, Option.map_some, Option.map_none, Sem.run_bind, hr, Result.andThen_ok, Sem.run_pure]
    exact hK _ _ h
/-- A block becomes a row. -/
theorem ent_row {g n k size : Nat} {t : TypeId} {cs : Array Value} (hM : Mem G w0 (⟨g, t, n, cs⟩ :: L) R w) (hk : 0 < k) (hk2 : k ≤ 1000000) (hn : n = k * size) : Mem G w0 L (rowT t size (.slice (some ⟨g, 0, none⟩) k k) k cs.toList :: R) w := by
  have hB := hM.blk (List.Mem.head _)
  have hsz := hM.size (List.Mem.head _)
  have hP : OffRow w t size (.slice (some ⟨g, 0, none⟩) k k) k cs.toList := by
    refine ⟨by rw [Array.length_toList, hsz, hn], _, _, rfl, Nat.le_refl _, by unfold maxLen; omega, fun _ => ⟨g, 0, cs, rfl, hB, by rw [hsz, hn, Nat.zero_add]; exact Nat.le_refl _, fun j hj => by rw [Nat.zero_add]; simp⟩⟩
  refine hM.repack (fun b hb => hM.blk_ b (List.mem_cons_of_mem _ hb)) (fun r hr => ?_) ?_
  · rcases List.mem_cons.1 hr with rfl | hr
    · exact hP
    · exact hM.thing r hr
  · simp only [foot, List.flatMap_cons, List.map_cons]
    rw [show (rowT t size (.slice (some ⟨g, 0, none⟩) k k) k cs.toList).fp = [g] from sFp_pos hk]
    exact (List.perm_append_comm_assoc _ _ _).trans (by simp)
end
/-- A row of such structs. -/
def elT (e : TypeId) (k : Nat) (v : Value) (l : List El) : Thing where
  fp := sFp v
  P := fun w => OffRow w e (32 + k) v l.length (stR l) ∧ Uni k l
  keep := fun _ _ hk h => ⟨h.1.keep hk, h.2⟩
  lt := fun _ h => h.1.lt
  nd := fun _ _ => sFp_nodup v
theorem elT_form {e : TypeId} {k : Nat} {v : Value} {l : List El} {w : World} (h : (elT e k v l).P w) : ∃ A c, v = .slice A l.length c ∧ l.length ≤ c := by
  obtain ⟨A, c, h1, h2, _⟩ := h.1.form
  exact ⟨A, c, h1, h2⟩
theorem elT_len {e : TypeId} {k n c : Nat} {A : Option Addr} {l : List El} {w : World} (h : (elT e k (.slice A n c) l).P w) : n = l.length ∧ n ≤ c := by
  obtain ⟨A', c', h1, h2⟩ := elT_form h
  injection h1 with h3 h4 h5
  omega
theorem elT_nil (w : World) (e : TypeId) (k : Nat) : (elT e k (.slice none 0 0) []).P w := ⟨OffRow.nil w e (32 + k), Uni.nil k⟩
theorem Mem.elNil {w w0 : World} {G : List Nat} {L : List Ent} {R : List Thing} (hM : Mem G w0 L R w) (e : TypeId) (k : Nat) : Mem G w0 L (elT e k (.slice none 0 0) [] :: R) w :=
  hM.newThing ⟨elT_nil w e k, KeptBut.refl _ _, fun g hg => by cases hg⟩
/-- Its elements, by their cells. -/
theorem elT_at {e : TypeId} {k n c : Nat} {A : Option Addr} {l : List El} {w : World} (h : (elT e k (.slice A n c) l).P w) (i : Nat) (hi : i < l.length) :
    ∃ g off, A = some ⟨g, off, none⟩ ∧ g < w.heap.size ∧ ∀ (j : Nat) (hj : j < l.length) (m : Nat) (u : Value), (elC l[j])[m]? = some u → w.cell? ⟨g, off + j * (32 + k) + m, none⟩ = some u := by
  obtain ⟨rfl, _⟩ := elT_len h
  obtain ⟨g, off, h1, h2, h3, _⟩ := h.1.cells (by omega)
  refine ⟨g, off, h1, h2, fun j hj m u hu => ?_⟩
  rw [Nat.add_assoc]
  exact h3 _ u (stR_get h.2 j hj m u hu)
structure ElTy (ts e : TypeId) (k bytes : Nat) (z : Value) : Prop where
  u : Tryz.prog.underlying ts = some (.slice e)
  i : (Tryz.prog.info? e).map (fun i => (i.zero, i.size, i.bytes)) = some (some z, 32 + k, bytes)
  z : z.cells.size = 32 + k
  b : bytes ≤ 1000
  kk : k ≤ 1000
  r : RowTy Tryz.prog e (32 + k)
theorem ely_hent : ElTy 97 40 4 64 (.agg (stC 0 [.int .i64 0, .int .i64 0, .int .i64 0, .bool false])) := ⟨Tryz.underlying97, by kernel_rfl, stC_size _ _, by decide, by decide, row_hent⟩
theorem ely_sent : ElTy 87 56 2 48 (.agg (stC 0 [.int .i64 0, .int .i64 0])) := ⟨Tryz.underlying87, by kernel_rfl, stC_size _ _, by decide, by decide, row_sent⟩
theorem ely_artc : ElTy 52 51 7 120 (.agg (stC 0 [.int .i64 0, .int .i64 0, .slice none 0 0, .int .i64 0, .int .i64 0, .slice none 0 0, .bool false])) := ⟨Tryz.underlying52, by kernel_rfl, stC_size _ _, by decide, by decide, row_artc⟩
theorem ely_cand : ElTy 106 113 10 128 (.agg (stC 0 [.int .i64 0, .int .i64 0, .slice none 0 0, .int .i64 0, .int .i64 0, .slice none 0 0, .bool false, .bool false, .bool false, .bool false])) := ⟨Tryz.underlying106, by kernel_rfl, stC_size _ _, by decide, by decide, row_cand⟩
theorem ely_reas : ElTy 57 62 1 40 (.agg (stC 0 [.int .i64 0])) := ⟨Tryz.underlying57, by kernel_rfl, stC_size _ _, by decide, by decide, row_reas⟩
theorem ely_id : ElTy 49 38 0 32 (.agg (stC 0 [])) := ⟨Tryz.underlying49, by kernel_rfl, stC_size _ _, by decide, by decide, row_id⟩
section
variable {w w0 : World} {G : List Nat} {L : List Ent} {R : List Thing} {ops : Array Oper} {rest : List Oper} {o : Oper} {a : Act} {Q : Exit → Act → World → Prop} {dst : Option Tmp} {type : TypeId} {pos : String} {after : Array Edge} {x y s : Operand} {ts e : TypeId} {k bytes j n c i g off : Nat} {z v : Value} {tl : List Value} {l : List El} {F : Thing → List Thing}
theorem at_bslice {t : TypeId} {m : Nat} {ps : Array (Nat × Operand)} (h : wpList Tryz.prog ops Q (⟨dst, .buildSlice t m ps, type, pos, after, none⟩ :: rest) a w) : wpList Tryz.prog ops Q (⟨dst, .buildSlice t m ps, type, pos, after, none⟩ :: rest) a w := h
theorem run_bslice (hT : ElTy ts e k bytes z) (hk : tl.length = k) (w : World) : (Instr.buildSlice ts 1 #[(0, .agg (stC j tl))]).run Tryz.prog w = .ok (.slice (some ⟨w.heap.size, 0, none⟩) 1 1) (w.alloc (.cells (stC j tl) e)) := by
  have hi := hT.i
  have hkk := hT.kk
  cases hq : Tryz.prog.info? e with
  | none => simp [hq] at hi
  | some i =>
    have h1 : i.zero = some z ∧ i.size = 32 + k ∧ i.bytes = bytes := by simpa [hq] using hi
    refine run_buildSlice w _ _ 1 _ _ i _ hT.u hq h1.1 (by rw [h1.2.1]; omega) (by rw [h1.2.1]; omega) ?_
    rw [h1.2.1]
    have hs : (stC j tl).size = 32 + k := by rw [stC_size, hk]
    show Instr.fill _ _ [(0, .agg (stC j tl))] = _
    rw [fill_cons (place := fun i => some (i * (32 + k), 32 + k)) (i := 0) (v := .agg (stC j tl)) (off := 0) (size := 32 + k) (by simp) hs (by simp)]
    simp only [Instr.fill, splice, List.take_zero, List.nil_append, Value.cells, Option.some.injEq]
    rw [List.drop_of_length_le (by simp [hs]), List.append_nil]
/-- A slice of one struct, written out. -/
theorem nbs (hM : Mem G w0 L R w) (hT : ElTy ts e k bytes z) (h : ∀ g w', Mem G w0 (⟨g, e, 32 + k, stC j tl⟩ :: L) R w' → wpList Tryz.prog ops Q rest (a.put o.dst (.slice (some ⟨g, 0, none⟩) 1 1)) w')
    (hgd : o.guard = none := by rfl) (ho : o.op = .buildSlice ts 1 #[(0, x)] := by rfl) (hx : a.eval x = .agg (stC j tl) := by rfl) (hk : tl.length = k := by rfl) : wpList Tryz.prog ops Q (o :: rest) a w := by
  refine wpList_plain hgd fun K hK => ?_
  unfold Oper.wp execOp
  simp only [ho, List.map_toArray, List.map_cons, List.map_nil, hx, Sem.run_bind, run_bslice hT hk, Result.andThen_ok]
  exact hK _ _ (h _ _ (hM.alloc _ _ (by rw [stC_size, hk])))
/-- append a struct onto a row. -/
theorem nap {n : Nat} (hM : Mem G w0 L R w) (hT : ElTy ts e k bytes z) (h63 : l.length < 1000000)
    (h : ∀ A' N c' w', Hid (N = l.length + 1) → Mem G w0 L (F (elT e k (.slice A' N c') (l ++ [(j, tl)]))) w' → wpList Tryz.prog ops Q rest (a.put o.dst (.slice A' N c')) w')
    (hgd : o.guard = none := by rfl) (ho : o.op = .call { callee := .builtin .append, args := #[s, x], argTypes := #[ts, ts] } := by rfl) (hv : a.eval s = v := by rfl) (hx : a.eval x = .slice (some ⟨g, 0, none⟩) 1 1 := by rfl) (hL : ⟨g, e, n, stC j tl⟩ ∈ L := by repeat (first | exact List.Mem.head _ | assumption | apply List.Mem.tail)) (hR : UpdR (elT e k v l) R F := by repeat (first | exact UpdR.head _ _ | assumption | apply UpdR.tail)) (h1 : tl.all (fun u => u.oneCell') = true := by rfl) (hk : tl.length = k := by rfl) : wpList Tryz.prog ops Q (o :: rest) a w := by
  have hB : Blk w g e (stC j tl) := hM.blk hL
  obtain ⟨hO, hU⟩ := hM.thing _ (mem_of_updR hR)
  have hlen : (stC j tl).toList.length = 32 + k := by rw [Array.length_toList, stC_size, hk]
  have hs : Src Tryz.prog (32 + k) ts (.slice (some ⟨g, 0, none⟩) 1 1) 1 (stC j tl).toList w := by
    refine Src.ofSlice w hT.u _ 1 1 _ (by rw [hlen]; omega) (fun i u hu => ?_) (stC_one h1)
    rw [addr_at]
    exact (hB.cell _).trans (by rw [Nat.zero_add]; simpa using hu)
  have hb := hT.b
  have hm : (l.length + 1) * bytes ≤ 1000000 * 1000 := Nat.mul_le_mul (by omega) hb
  obtain ⟨A', c', w', hrun, hbc⟩ := run_append_off (P := Tryz.prog) ts ts o.type e z (32 + k) bytes hT.u hT.i hT.z v l.length (stR l) hO _ 1 _ hs (by unfold maxLen; omega) (by omega)
  refine wpList_plain hgd fun K hK => ?_
  unfold Oper.wp execOp
  simp only [ho, resolve, invoke, builtin, Sem.run_bind, Sem.run_pure, Result.andThen_ok, List.map_toArray, List.map_cons, List.map_nil, hv, hx, hrun]
  refine hK _ _ (h A' _ c' w' (Lib.hid rfl) (hM.turn hR ⟨⟨?_, hU.app (Uni.one hk h1)⟩, hbc.kept, hbc.sub⟩))
  have := hbc.holds
  rw [stR_app, stR_one, List.length_append]
  exact this
theorem setRow_kept {w : World} {g : Nat} {X : Array Value} : KeptBut [g] w (w.setRow g X) := KeptBut.only ((Only.refl g w).setRow X)
set_option maxRecDepth 100000 in
/-- A struct of a row is overwritten. -/
theorem nse {A : Option Addr} (hM : Mem G w0 L R w) (hT : ElTy ts e k bytes z) (hi : i < l.length) (h : ∀ w', Mem G w0 L (F (elT e k (.slice A n c) (l.set i (j, tl)))) w' → wpList Tryz.prog ops Q rest a w') (h1 : tl.all (fun u => u.oneCell') = true) (hk : tl.length = k) (hA : A = some ⟨g, off, none⟩)
    (hgd : o.guard = none := by rfl) (ho : o.op = .store e x y := by rfl) (hx : a.eval x = .pointer (some ⟨g, off + i * (32 + k), none⟩) := by rfl) (hy : a.eval y = .agg (stC j tl) := by rfl) (hR : UpdR (elT e k (.slice A n c) l) R F := by repeat (first | exact UpdR.head _ _ | assumption | apply UpdR.tail)) (hdst : o.dst = none := by rfl) : wpList Tryz.prog ops Q (o :: rest) a w := by
  subst hA
  have hP := hM.thing _ (mem_of_updR hR)
  obtain ⟨rfl, hnc⟩ := elT_len hP
  obtain ⟨⟨h2, A', c', he, h3, h4, h5⟩, hU⟩ := hP
  have e1 : some (⟨g, off, none⟩ : Addr) = A' := by injection he
  have e2 : c = c' := by injection he
  subst e1 e2
  obtain ⟨g', off', cur, hg, h6, h7, h8⟩ := h5 (by omega)
  have e3 : g = g' := by injection hg with hg; injection hg
  have e4 : off = off' := by injection hg with hg; injection hg
  subst e3 e4
  have hsz : (stC j tl).size = 32 + k := by rw [stC_size, hk]
  have hmul : (i + 1) * (32 + k) ≤ l.length * (32 + k) := Nat.mul_le_mul_right _ hi
  have hmul2 : l.length * (32 + k) ≤ c * (32 + k) := Nat.mul_le_mul_right _ hnc
  rw [Nat.add_mul, Nat.one_mul] at hmul
  obtain ⟨_, _, _, hsi⟩ := hT.r.ex
  refine wpList_store_part hgd e x y ho g _ hx (stC j tl) hy e cur (32 + k) h6 hsi hsz (by omega) (stC_one h1) hdst fun w' hw' => h w' (hM.turn hR ?_)
  subst hw'
  have hset := (stR_set hU hi (j, tl)).resolve_right (fun h => h hk)
  have hU' : Uni k (l.set i (j, tl)) := hU.set (Uni.one hk h1)
  refine ⟨⟨⟨?_, _, _, ?_, ?_, h4, fun _ => ⟨g, off, _, rfl, (show Blk w g e cur from h6).row _, ?_, fun q hq => ?_⟩⟩, hU'⟩, ?_, fun _ hg => .inl hg⟩
  · rw [List.length_set, hset, splice_length (by rw [Array.length_toList, hsz, h2]; omega)]
    exact h2
  · rw [List.length_set]
  · rw [List.length_set]
    exact h3
  · rw [List.size_toArray, splice_length (by rw [Array.length_toList, hsz]; simp; omega)]
    simpa using h7
  · rw [List.length_set] at hq
    rw [List.getElem?_toArray, splice_get _ _ _ _ (by rw [Array.length_toList, hsz]; simp; omega), hset, splice_get _ _ _ _ (by rw [Array.length_toList, hsz, h2]; omega), Array.length_toList, hsz]
    by_cases hin : i * (32 + k) ≤ q ∧ q < i * (32 + k) + (32 + k)
    · rw [if_pos (by omega), if_pos hin]
      congr 1
      omega
    · rw [if_neg (by omega), if_neg hin]
      simpa using h8 q hq
  · have e5 : (elT e k (.slice (some ⟨g, off, none⟩) l.length c) l).fp = [g] := sFp_pos (by omega)
    rw [e5]
    exact setRow_kept
end
end Go.Proofs.YtpjphjokhccdaaaGreat
