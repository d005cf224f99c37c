/- Seat c: rows of lines, texts, bytes, as things; append, builds, loads. -/
import Derived.Test.YtlidpdjainmaiaaGreatDoorGp
import Derived.Lib.Hide
import Derived.Great.BuildSlice
namespace Go.Thg
open Go Go.RowKit Go.Bul
/-- Where the rest of a slice begins. -/
def advA (A : Option Addr) (k c size : Nat) : Option Addr := if c = k then A else A.map (·.add (k * size))
theorem OffRow.adv {w : World} {e : TypeId} {size : Nat} {A : Option Addr} {n c : Nat} {xs : List Value} (h : OffRow w e size (.slice A n c) n xs) (k : Nat) (hk : k ≤ n) :
    OffRow w e size (.slice (advA A k c size) (n - k) (c - k)) (n - k) (xs.drop (k * size)) ∧ (∀ g ∈ sFp (.slice (advA A k c size) (n - k) (c - k)), g ∈ sFp (.slice A n c)) := by
  obtain ⟨A', h1, h2, h3, h4⟩ := h.rest k hk
  have he : advA A k c size = A' := by
    unfold advA
    obtain ⟨_, B, d, hb, hnd, _, h5⟩ := h
    have e1 : A = B := by injection hb
    have e2 : c = d := by injection hb
    subst e1 e2
    by_cases hc : k < c
    · obtain ⟨g, off, cur, rfl, _⟩ := h5 (by omega)
      rw [if_neg (by omega), h3 hc g off rfl]
      simp [addr_at]
    · rw [if_pos (by omega), h4 (by omega)]
  rw [he]
  exact ⟨h1, h2⟩
/-- The beginning of such a slice reads as the beginning. -/
theorem Reads.take {w : World} {size : Nat} {A : Option Addr} {n : Nat} {xs : List Value} (h : Reads w size A n xs) (k : Nat) (hk : k ≤ n) : Reads w size A k (xs.take (k * size)) := by
  have hm : k * size ≤ n * size := Nat.mul_le_mul_right _ hk
  refine ⟨by rw [List.length_take, h.1]; omega, fun h0 => ?_⟩
  obtain ⟨g, off, h1, h2, h3⟩ := h.2 (by omega)
  refine ⟨g, off, h1, h2, fun j u hu => h3 j u ?_⟩
  rw [List.getElem?_take] at hu
  split at hu
  · exact hu
  · cases hu
section
variable {P : Program} {w w0 : World} {G : List Nat} {L : List Ent} {R : List Thing} {ops : Array Oper} {rest : List Oper} {o : Oper} {a : Act} {Q : Exit → Act → World → Prop}
theorem run_slice_lo (t e : TypeId) (size : Nat) (ht : P.underlying t = some (.slice e)) (hs : (P.info? e).map (·.size) = some size) (A : Option Addr) (n c k : Nat) (hk : k ≤ n) (_hn : n ≤ c) (W : World) :
    (Instr.sliceAt t (.slice A n c) (some (.int .i64 (k : Nat))) none none).run P W = .ok (.slice (advA A k c size) (n - k) (c - k)) W := by
  have h1 : (0 : Int) ≤ (k : Int) ∧ (k : Int) ≤ (n : Int) := ⟨by omega, by omega⟩
  have hz := Go.Bul.run_sizeOf hs W
  simp [Instr.sliceAt, Instr.slice, Instr.sliceBounds, Instr.sliceBound, asIntOf, run_underlying ht, Sem.run_bind, h1, hz, advA]
  intro h
  omega
theorem run_slice_hi (t e : TypeId) (size : Nat) (ht : P.underlying t = some (.slice e)) (hs : (P.info? e).map (·.size) = some size) (A : Option Addr) (n c k : Nat) (hk : k ≤ c) (W : World) :
    (Instr.sliceAt t (.slice A n c) none (some (.int .i64 (k : Nat))) none).run P W = .ok (.slice (advA A 0 c size) k c) W := by
  have h1 : (0 : Int) ≤ (k : Int) ∧ (k : Int) ≤ (c : Int) := ⟨by omega, by omega⟩
  have hz := Go.Bul.run_sizeOf hs W
  simp [Instr.sliceAt, Instr.slice, Instr.sliceBounds, Instr.sliceBound, asIntOf, run_underlying ht, Sem.run_bind, h1, hz, advA]
  intro h
  omega
theorem at_slice {dst : Option Tmp} {type : TypeId} {pos : String} {after : Array Edge} {t : TypeId} {x : Operand} {lo hi mx : Option Operand} (h : wpList P ops Q (⟨dst, .slice t x lo hi mx, type, pos, after, none⟩ :: rest) a w) : wpList P ops Q (⟨dst, .slice t x lo hi mx, type, pos, after, none⟩ :: rest) a w := h
theorem wpList_run {f : Sem Value} {v : Value} (hgd : o.guard = none) (ho : execOp a.eval o = (do pure (Next.value (← f)))) (hr : f.run P w = .ok v w) (h : wpList P ops Q rest (a.put o.dst v) w) : wpList P ops Q (o :: rest) a w :=
  wpList_plain hgd fun K hK => by
    unfold Oper.wp
    rw [ho]
    simp only [Sem.run_bind, hr, Result.andThen_ok, Sem.run_pure]
    exact hK _ _ h
/-- append onto a thing. -/
theorem wpList_append_thing (hM : Mem G w0 L R w) (t tx e : TypeId) (z : Value) (size bytes : Nat) (ht : P.underlying t = some (.slice e)) (hi : (P.info? e).map (fun i => (i.zero, i.size, i.bytes)) = some (some z, size, bytes)) (hzs : z.cells.size = size)
    (hgd : o.guard = none) (s x : Operand) (ho : o.op = .call { callee := .builtin .append, args := #[s, x], argTypes := #[t, tx] }) (v : Value) (hv : a.eval s = v) (n : Nat) (xs : List Value) (F : Thing → List Thing) (hR : UpdR (rowT e size v n xs) R F)
    (y : Value) (hy : a.eval x = y) (m : Nat) (news : List Value) (hs : Src P size tx y m news w) (h63 : n + m ≤ 1000000000) (hbytes : bytes ≤ 1000)
    (h : ∀ A' N c' w', N = n + m → Mem G w0 L (F (rowT e size (.slice A' N c') N (xs ++ news))) w' → wpList P ops Q rest (a.put o.dst (.slice A' N c')) w') : wpList P ops Q (o :: rest) a w := by
  have hm : (n + m) * bytes ≤ 1000000000 * 1000 := Nat.mul_le_mul h63 hbytes
  obtain ⟨A', c', w', hrun, hb⟩ := run_append_off (P := P) t tx o.type e z size bytes ht hi hzs v n xs (hM.thing _ (mem_of_updR hR)) y m news hs (by unfold maxLen; omega) (by omega)
  refine wpList_plain hgd fun K hK => ?_
  unfold Oper.wp execOp
  simp only [ho, resolve, invoke, builtin, Sem.run_bind, Sem.run_pure, Result.andThen_ok, List.map_toArray, List.map_cons, List.map_nil, hv, hy, hrun]
  exact hK _ _ (h A' _ c' w' rfl (hM.turn hR hb))
end
end Go.Thg
namespace Go.Lin
open Go Go.Bul Go.Thg
/-- How an element's cells look. -/
structure Cf {α : Type} (sz : Nat) (cf : α → List Value) : Prop where
  len : ∀ x, (cf x).length = sz
  one : ∀ x, ∀ u ∈ cf x, u.oneCell' = true
def rows {α : Type} (cf : α → List Value) (l : List α) : List Value := l.flatMap cf
section
variable {α : Type} {sz : Nat} {cf : α → List Value}
theorem rows_app (a b : List α) : rows cf (a ++ b) = rows cf a ++ rows cf b := by simp [rows]
theorem rows_one (x : α) : rows cf [x] = cf x := by simp [rows]
theorem rows_cons (x : α) (l : List α) : rows cf (x :: l) = cf x ++ rows cf l := by simp [rows]
theorem rows_length (h : Cf sz cf) : ∀ l : List α, (rows cf l).length = l.length * sz
  | [] => by simp [rows]
  | x :: l => by rw [rows_cons, List.length_append, h.len, rows_length h l, List.length_cons, Nat.add_mul]; omega
theorem rows_ones (h : Cf sz cf) (l : List α) : ∀ u ∈ rows cf l, u.oneCell' = true := by
  intro u hu
  obtain ⟨x, _, hx2⟩ := List.mem_flatMap.1 hu
  exact h.one x u hx2
theorem rows_drop (h : Cf sz cf) : ∀ (l : List α) (k : Nat), rows cf (l.drop k) = (rows cf l).drop (k * sz)
  | [], k => by simp [rows]
  | x :: l, 0 => by simp
  | x :: l, k + 1 => by
    have e1 : (cf x).drop ((k + 1) * sz) = [] := List.drop_of_length_le (by rw [h.len, Nat.add_mul]; omega)
    rw [List.drop_succ_cons, rows_drop h l k, rows_cons, List.drop_append, h.len, show (k + 1) * sz - sz = k * sz by rw [Nat.add_mul]; omega, e1, List.nil_append]
theorem rows_take (h : Cf sz cf) : ∀ (l : List α) (k : Nat), rows cf (l.take k) = (rows cf l).take (k * sz)
  | [], k => by simp [rows]
  | x :: l, 0 => by simp [rows]
  | x :: l, k + 1 => by
    have e1 : (cf x).take ((k + 1) * sz) = cf x := List.take_of_length_le (by rw [h.len, Nat.add_mul]; omega)
    rw [List.take_succ_cons, rows_cons, rows_take h l k, rows_cons, List.take_append, h.len, show (k + 1) * sz - sz = k * sz by rw [Nat.add_mul]; omega, e1]
theorem rows_get (h : Cf sz cf) : ∀ (l : List α) (i : Nat) (hi : i < l.length) (j : Nat) (u : Value), (cf l[i])[j]? = some u → (rows cf l)[i * sz + j]? = some u
  | x :: l, 0, _, j, u, hu => by
    replace hu : (cf x)[j]? = some u := hu
    have hj := (List.getElem?_eq_some_iff.1 hu).1
    rw [rows_cons, Nat.zero_mul, Nat.zero_add, List.getElem?_append_left hj]
    exact hu
  | x :: l, i + 1, hi, j, u, hu => by
    rw [rows_cons, List.getElem?_append_right (by rw [h.len, Nat.add_mul]; omega), h.len, show (i + 1) * sz + j - sz = i * sz + j by rw [Nat.add_mul]; omega]
    exact rows_get h l i (by simpa using hi) j u hu
/-- A row, as a thing. -/
def gT (e : TypeId) (sz : Nat) (cf : α → List Value) (v : Value) (l : List α) : Thing := rowT e sz v l.length (rows cf l)
theorem gT_form {e : TypeId} {v : Value} {l : List α} {w : World} (h : (gT e sz cf v l).P w) : ∃ A c, v = .slice A l.length c ∧ l.length ≤ c := by
  obtain ⟨A, c, h1, h2, _⟩ := OffRow.form h
  exact ⟨A, c, h1, h2⟩
theorem gT_len {e : TypeId} {n c : Nat} {A : Option Addr} {l : List α} {w : World} (h : (gT e sz cf (.slice A n c) l).P w) : n = l.length ∧ n ≤ c := by
  obtain ⟨A', c', h1, h2⟩ := gT_form h
  injection h1 with h3 h4 h5
  omega
theorem gT_nil (w : World) (e : TypeId) (A : Option Addr) : (gT e sz cf (.slice A 0 0) []).P w := OffRow.empty w e sz A
theorem Mem.gNil {w w0 : World} {G : List Nat} {L : List Ent} {R : List Thing} (hM : Mem G w0 L R w) (e : TypeId) (sz : Nat) (cf : α → List Value) : Mem G w0 L (gT e sz cf (.slice none 0 0) [] :: R) w :=
  hM.newThing ⟨gT_nil w e none, KeptBut.refl _ _, fun g hg => by cases hg⟩
theorem gT_at (hC : Cf sz cf) {e : TypeId} {n c : Nat} {A : Option Addr} {l : List α} {w : World} (h : (gT e sz cf (.slice A n c) l).P w) (h0 : 0 < l.length) :
    ∃ g off, A = some ⟨g, off, none⟩ ∧ g < w.heap.size ∧ ∀ (j : Nat) (hj : j < l.length) (m : Nat) (u : Value), (cf l[j])[m]? = some u → w.cell? ⟨g, off + j * sz + m, none⟩ = some u := by
  obtain ⟨rfl, _⟩ := gT_len h
  obtain ⟨g, off, h1, h2, h3, _⟩ := OffRow.cells h h0
  refine ⟨g, off, h1, h2, fun j hj m u hu => ?_⟩
  rw [Nat.add_assoc]
  exact h3 _ u (rows_get hC l j hj m u hu)
theorem gT_src {P : Program} (hC : Cf sz cf) {e : TypeId} {n c : Nat} {A : Option Addr} {l : List α} {w : World} {tx e' : TypeId} (h : (gT e sz cf (.slice A n c) l).P w) (hk : P.underlying tx = some (.slice e')) : Src P sz tx (.slice A n c) n (rows cf l) w := by
  obtain ⟨rfl, _⟩ := gT_len h
  exact OffRow.src h hk (rows_ones hC l)
/-- The first elements of a row. -/
theorem gT_take (hC : Cf sz cf) {e : TypeId} {n c : Nat} {A : Option Addr} {l : List α} {w : World} (h : (gT e sz cf (.slice A n c) l).P w) (k : Nat) (hk : k ≤ n) : Reads w sz A k (rows cf (l.take k)) := by
  obtain ⟨rfl, _⟩ := gT_len h
  rw [rows_take hC]
  exact Reads.take (OffRow.reads h) k hk
/-- The rest of a row is a row. -/
theorem gT_rest (hC : Cf sz cf) {e : TypeId} {n c : Nat} {A : Option Addr} {l : List α} {w : World} (h : (gT e sz cf (.slice A n c) l).P w) (k : Nat) (hk : k ≤ n) : Becomes (gT e sz cf (.slice A n c) l).fp w (gT e sz cf (.slice (advA A k c sz) (n - k) (c - k)) (l.drop k)) w := by
  obtain ⟨rfl, _⟩ := gT_len h
  obtain ⟨h1, h2⟩ := OffRow.adv h k hk
  refine ⟨?_, KeptBut.refl _ _, fun g hg => .inl (h2 g hg)⟩
  show OffRow _ _ _ _ (l.drop k).length _
  rw [List.length_drop, rows_drop hC]
  exact h1
end
end Go.Lin
namespace Go.Proofs.YtlidpdjainmaiaaGreatDoor
open Go Go.RowKit Go.Bul Go.Thg Go.Lin Go.Cht
structure RT {α : Type} (ts e : TypeId) (sz bytes : Nat) (z : Value) (cf : α → List Value) : Prop where
  u : Tryz.prog.underlying ts = some (.slice e)
  i : (Tryz.prog.info? e).map (fun i => (i.zero, i.size, i.bytes)) = some (some z, sz, bytes)
  z : z.cells.size = sz
  b : bytes ≤ 1000
  p : 0 < sz
  c : Cf sz cf
theorem RT.sz {α : Type} {ts e : TypeId} {sz bytes : Nat} {z : Value} {cf : α → List Value} (h : RT ts e sz bytes z cf) : (Tryz.prog.info? e).map (·.size) = some sz := by
  have hi := h.i
  cases hq : Tryz.prog.info? e with
  | none => simp [hq] at hi
  | some i => simp [hq] at hi ⊢; exact hi.2.1
def lnF (l : Ln) : List Value := (lnA l).toList
def stF (s : ByteArray) : List Value := [.string s]
def byF (c : Nat) : List Value := [.int .u8 (c : Nat)]
theorem cf_ln : Cf 3 lnF := ⟨fun _ => rfl, fun _ u hu => by simp [lnF, lnA] at hu; rcases hu with rfl | rfl | rfl <;> rfl⟩
theorem cf_st : Cf 1 stF := ⟨fun _ => rfl, fun _ u hu => by simp [stF] at hu; subst hu; rfl⟩
theorem cf_by : Cf 1 byF := ⟨fun _ => rfl, fun _ u hu => by simp [byF] at hu; subst hu; rfl⟩
theorem rows_by (l : List Nat) : rows byF l = vals .u8 l := by
  induction l with
  | nil => rfl
  | cons x l ih => rw [rows_cons, ih]; rfl
theorem rt_ln : RT 29 37 3 40 (.agg #[.int .i64 0, .string ⟨#[]⟩, .string ⟨#[]⟩]) lnF := ⟨Tryz.underlying29, by kernel_rfl, rfl, by decide, by decide, cf_ln⟩
theorem rt_st : RT 33 9 1 16 (.string ⟨#[]⟩) stF := ⟨Tryz.underlying33, by kernel_rfl, rfl, by decide, by decide, cf_st⟩
theorem rt_by : RT 61 5 1 1 (.int .u8 0) byF := ⟨Tryz.underlying61, by kernel_rfl, rfl, by decide, by decide, cf_by⟩
abbrev lT (v : Value) (l : List Ln) : Thing := gT 37 3 lnF v l
abbrev sT (v : Value) (l : List ByteArray) : Thing := gT 9 1 stF v l
abbrev bT (v : Value) (l : List Nat) : Thing := gT 5 1 byF v l
theorem bytes_src (s : ByteArray) (w : World) : Src Tryz.prog 1 9 (.string s) (nums s).length (rows byF (nums s)) w := by
  have h := Src.ofString (P := Tryz.prog) w (tx := 9) Tryz.underlying9 s
  have e : byteCells s = rows byF (nums s) := by rw [rows_by]; simp [byteCells, vals, nums]
  rw [e] at h
  rwa [nums_length]
section
variable {w w0 : World} {G : List Nat} {L : List Ent} {R : List Thing} {ops : Array Oper} {rest : List Oper} {o : Oper} {a : Act} {Q : Exit → Act → World → Prop} {x y : Operand} {A : Option Addr} {n c k i g : Nat} {t ty : TypeId} {cs : Array Value} {v : Value} {T e : TypeId} {size : Nat}
theorem lsl_hi (ht : Tryz.prog.underlying T = some (.slice e)) (hs : (Tryz.prog.info? e).map (·.size) = some size) (hk : k ≤ c) (hA : advA A 0 c size = A) (h : wpList Tryz.prog ops Q rest (a.put o.dst (.slice A k c)) w) (hgd : o.guard = none := by rfl) (ho : o.op = .slice T x none (some y) none := by rfl) (hx : a.eval x = .slice A n c := by rfl) (hy : a.eval y = .int .i64 (k : Nat) := by rfl) : wpList Tryz.prog ops Q (o :: rest) a w :=
  wpList_plain hgd fun K hK => by
    have hr := run_slice_hi T e size ht hs A n c k hk w
    rw [hA] at hr
    unfold Oper.wp execOp
    simp only [ho, hx, hy, Option.map_some, Option.map_none, Sem.run_bind, hr, Result.andThen_ok, Sem.run_pure]
    exact hK _ _ h
theorem lsl_lo (ht : Tryz.prog.underlying T = some (.slice e)) (hs : (Tryz.prog.info? e).map (·.size) = some size) (hk : k ≤ n) (hn : n ≤ c) (h : wpList Tryz.prog ops Q rest (a.put o.dst (.slice (advA A k c size) (n - k) (c - k))) w) (hgd : o.guard = none := by rfl) (ho : o.op = .slice T x (some y) none none := by rfl) (hx : a.eval x = .slice A n c := by rfl) (hy : a.eval y = .int .i64 (k : Nat) := by rfl) : wpList Tryz.prog ops Q (o :: rest) a w :=
  wpList_plain hgd fun K hK => by
    have hr := run_slice_lo T e size ht hs A n c k hk hn w
    unfold Oper.wp execOp
    simp only [ho, hx, hy, Option.map_some, Option.map_none, Sem.run_bind, hr, Result.andThen_ok, Sem.run_pure]
    exact hK _ _ h
end
section
variable {α : Type} {w w0 : World} {G : List Nat} {L : List Ent} {R : List Thing} {ops : Array Oper} {rest : List Oper} {o : Oper} {a : Act} {Q : Exit → Act → World → Prop} {dst : Option Tmp} {type : TypeId} {pos : String} {after : Array Edge} {x y s : Operand} {ts e tx : TypeId} {sz bytes j n c i g m : Nat} {z v V Y : Value} {cf : α → List Value} {l ys : List α} {F : Thing → List Thing}
theorem at_bslice {t : TypeId} {m : Nat} {ps : Array (Nat × Operand)} (h : wpList Tryz.prog ops Q (⟨dst, .buildSlice t m ps, type, pos, after, none⟩ :: rest) a w) : wpList Tryz.prog ops Q (⟨dst, .buildSlice t m ps, type, pos, after, none⟩ :: rest) a w := h
theorem at_app {f : Call} (h : wpList Tryz.prog ops Q (⟨dst, .call f, type, pos, after, none⟩ :: rest) a w) : wpList Tryz.prog ops Q (⟨dst, .call f, type, pos, after, none⟩ :: rest) a w := h
/-- append onto a row. -/
theorem gap (hM : Mem G w0 L R w) (hT : RT ts e sz bytes z cf) (hs : Src Tryz.prog sz tx Y m (rows cf ys) w) (h63 : l.length + m ≤ 1000000000)
    (h : ∀ A' N c' w', Hid (N = (l ++ ys).length) → Mem G w0 L (F (gT e sz cf (.slice A' N c') (l ++ ys))) w' → wpList Tryz.prog ops Q rest (a.put o.dst (.slice A' N c')) w')
    (hgd : o.guard = none := by rfl) (ho : o.op = .call { callee := .builtin .append, args := #[s, x], argTypes := #[ts, tx] } := by rfl) (hv : a.eval s = V := by rfl) (hR : UpdR (gT e sz cf V l) R F := by repeat (first | exact UpdR.head _ _ | assumption | apply UpdR.tail)) (hy : a.eval x = Y := by rfl) : wpList Tryz.prog ops Q (o :: rest) a w := by
  have hm : m = ys.length := by
    have h1 := hs.newsLen
    rw [rows_length hT.c] at h1
    exact (Nat.eq_of_mul_eq_mul_right hT.p h1).symm
  subst hm
  refine wpList_append_thing hM ts tx e z sz bytes hT.u hT.i hT.z hgd s x ho V hv l.length (rows cf l) F hR Y hy _ _ hs h63 hT.b fun A' N c' w' hN hm => ?_
  have e1 : N = (l ++ ys).length := by rw [hN, List.length_append]
  refine h A' N c' w' (Lib.hid e1) ?_
  rw [gT, ← e1, rows_app]
  exact hm
theorem run_bone (hT : RT ts e sz bytes z cf) {cs : Array Value} (hcs : v.cells = cs) (hsz : cs.size = sz) (h24 : sz ≤ 1000) (w : World) : (Instr.buildSlice ts 1 #[(0, v)]).run Tryz.prog w = .ok (.slice (some ⟨w.heap.size, 0, none⟩) 1 1) (w.alloc (.cells cs e)) := by
  have hi := hT.i
  have hp := hT.p
  cases hq : Tryz.prog.info? e with
  | none => simp [hq] at hi
  | some i =>
    have h1 : i.zero = some z ∧ i.size = sz ∧ i.bytes = bytes := by simpa [hq] using hi
    refine run_buildSlice w _ _ 1 _ _ i _ hT.u hq h1.1 (by rw [h1.2.1]; omega) (by rw [h1.2.1]; omega) ?_
    rw [h1.2.1]
    show Instr.fill _ _ [(0, v)] = _
    rw [fill_cons (place := fun i => some (i * sz, sz)) (i := 0) (v := v) (off := 0) (size := sz) (by simp) (by rw [hcs, hsz]) (by simp)]
    simp only [Instr.fill, splice, List.take_zero, List.nil_append, hcs, Option.some.injEq]
    rw [List.drop_of_length_le (by simp [hsz]), List.append_nil]
/-- A slice of one element, written out. -/
theorem gbs (hM : Mem G w0 L R w) (hT : RT ts e sz bytes z cf) {cs : Array Value} (hcs : v.cells = cs) (hsz : cs.size = sz) (h24 : sz ≤ 1000) (h : ∀ g w', Mem G w0 (⟨g, e, sz, cs⟩ :: L) R w' → wpList Tryz.prog ops Q rest (a.put o.dst (.slice (some ⟨g, 0, none⟩) 1 1)) w')
    (hgd : o.guard = none := by rfl) (ho : o.op = .buildSlice ts 1 #[(0, x)] := by rfl) (hx : a.eval x = v := by rfl) : wpList Tryz.prog ops Q (o :: rest) a w := by
  refine wpList_plain hgd fun K hK => ?_
  unfold Oper.wp execOp
  simp only [ho, List.map_toArray, List.map_cons, List.map_nil, hx, Sem.run_bind, run_bone hT hcs hsz h24, Result.andThen_ok]
  exact hK _ _ (h _ _ (hM.alloc _ _ hsz))
/-- .. as what is appended. -/
theorem ent_src (hM : Mem G w0 L R w) (hT : RT ts e sz bytes z cf) {cs : Array Value} {x : α} (hcs : cs = (cf x).toArray) (hL : ⟨g, e, sz, cs⟩ ∈ L) : Src Tryz.prog sz ts (.slice (some ⟨g, 0, none⟩) 1 1) 1 (rows cf [x]) w := by
  subst hcs
  have hB : Blk w g e (cf x).toArray := hM.blk hL
  rw [rows_one]
  refine Src.ofSlice w hT.u _ 1 1 _ (by rw [hT.c.len]; omega) (fun i u hu => ?_) (hT.c.one x)
  rw [addr_at]
  exact (hB.cell _).trans (by rw [Nat.zero_add]; simpa using hu)
end
end Go.Proofs.YtlidpdjainmaiaaGreatDoor
