/- Rows of bytes; append, parts. -/
import Derived.Test.YtcfojkecmchbdaaDoorMat
import Derived.Test.YtcfojkecmchbdaaDoorStr
import Derived.Laws.BytesArg
import Derived.Lib.SliceRun
import Derived.Lib.Hide
namespace Go.Thg
open Go Go.RowKit Go.Bul
/-- Where the rest of a slice begins. -/
def advA (A : Option Addr) (k c size : Nat) : Option Addr := if c = k then A else A.map (·.add (k * size))
theorem OffRow.adv {w : World} {e : TypeId} {size : Nat} {A : Option Addr} {n c : Nat} {xs : List Value} (h : OffRow w e size (.slice A n c) n xs) (k : Nat) (hk : k ≤ n) :
    OffRow w e size (.slice (advA A k c size) (n - k) (c - k)) (n - k) (xs.drop (k * size)) ∧ (∀ g ∈ sFp (.slice (advA A k c size) (n - k) (c - k)), g ∈ sFp (.slice A n c)) := by
  obtain ⟨A', h1, h2, h3, h4⟩ := h.rest k hk
  have he : advA A k c size = A' := by
    unfold advA
    obtain ⟨_, B, d, hb, hnd, _, h5⟩ := h
    have e1 : A = B := by injection hb
    have e2 : c = d := by injection hb
    subst e1 e2
    by_cases hc : k < c
    · obtain ⟨g, off, cur, rfl, _⟩ := h5 (by omega)
      rw [if_neg (by omega), h3 hc g off rfl]
      simp [addr_at]
    · rw [if_pos (by omega), h4 (by omega)]
  rw [he]
  exact ⟨h1, h2⟩
/-- The beginning of such a slice reads as the beginning. -/
theorem Reads.take {w : World} {size : Nat} {A : Option Addr} {n : Nat} {xs : List Value} (h : Reads w size A n xs) (k : Nat) (hk : k ≤ n) : Reads w size A k (xs.take (k * size)) := by
  have hm : k * size ≤ n * size := Nat.mul_le_mul_right _ hk
  refine ⟨by rw [List.length_take, h.1]; omega, fun h0 => ?_⟩
  obtain ⟨g, off, h1, h2, h3⟩ := h.2 (by omega)
  refine ⟨g, off, h1, h2, fun j u hu => h3 j u ?_⟩
  rw [List.getElem?_take] at hu
  split at hu
  · exact hu
  · cases hu
section
variable {P : Program} {w w0 : World} {G : List Nat} {L : List Ent} {R : List Thing} {ops : Array Oper} {rest : List Oper} {o : Oper} {a : Act} {Q : Exit → Act → World → Prop}
theorem run_slice_lo (t e : TypeId) (size : Nat) (ht : P.underlying t = some (.slice e)) (hs : (P.info? e).map (·.size) = some size) (A : Option Addr) (n c k : Nat) (hk : k ≤ n) (hn : n ≤ c) (W : World) :
    (Instr.sliceAt t (.slice A n c) (some (.int .i64 (k : Nat))) none none).run P W = .ok (.slice (advA A k c size) (n - k) (c - k)) W := by
  have h1 : (0 : Int) ≤ (k : Int) ∧ (k : Int) ≤ (n : Int) := ⟨by omega, by omega⟩
  have hz := Go.Bul.run_sizeOf hs W
  simp [Instr.sliceAt, Instr.slice, Instr.sliceBounds, Instr.sliceBound, asIntOf, run_underlying ht, Sem.run_bind, h1, hz, advA]
  intro h
  omega
theorem run_slice_hi (t e : TypeId) (size : Nat) (ht : P.underlying t = some (.slice e)) (hs : (P.info? e).map (·.size) = some size) (A : Option Addr) (n c k : Nat) (hk : k ≤ c) (W : World) :
    (Instr.sliceAt t (.slice A n c) none (some (.int .i64 (k : Nat))) none).run P W = .ok (.slice (advA A 0 c size) k c) W := by
  have h1 : (0 : Int) ≤ (k : Int) ∧ (k : Int) ≤ (c : Int) := ⟨by omega, by omega⟩
  have hz := Go.Bul.run_sizeOf hs W
  simp [Instr.sliceAt, Instr.slice, Instr.sliceBounds, Instr.sliceBound, asIntOf, run_underlying ht, Sem.run_bind, h1, hz, advA]
  intro h
  omega
theorem at_slice {dst : Option Tmp} {type : TypeId} {pos : String} {after : Array Edge} {t : TypeId} {x : Operand} {lo hi mx : Option Operand} (h : wpList P ops Q (⟨dst, .slice t x lo hi mx, type, pos, after, none⟩ :: rest) a w) : wpList P ops Q (⟨dst, .slice t x lo hi mx, type, pos, after, none⟩ :: rest) a w := h
theorem wpList_run {f : Sem Value} {v : Value} (hgd : o.guard = none) (ho : execOp a.eval o = (do pure (Next.value (← f)))) (hr : f.run P w = .ok v w) (h : wpList P ops Q rest (a.put o.dst v) w) : wpList P ops Q (o :: rest) a w :=
  wpList_plain hgd fun K hK => by
    unfold Oper.wp
    rw [ho]
    simp only [Sem.run_bind, hr, Result.andThen_ok, Sem.run_pure]
    exact hK _ _ h
/-- append onto a thing. -/
theorem wpList_append_thing (hM : Mem G w0 L R w) (t tx e : TypeId) (z : Value) (size bytes : Nat) (ht : P.underlying t = some (.slice e)) (hi : (P.info? e).map (fun i => (i.zero, i.size, i.bytes)) = some (some z, size, bytes)) (hzs : z.cells.size = size)
    (hgd : o.guard = none) (s x : Operand) (ho : o.op = .call { callee := .builtin .append, args := #[s, x], argTypes := #[t, tx] }) (v : Value) (hv : a.eval s = v) (n : Nat) (xs : List Value) (F : Thing → List Thing) (hR : UpdR (rowT e size v n xs) R F)
    (y : Value) (hy : a.eval x = y) (m : Nat) (news : List Value) (hs : Src P size tx y m news w) (h63 : n + m ≤ 1000000000) (hbytes : bytes ≤ 1000)
    (h : ∀ A' N c' w', N = n + m → Mem G w0 L (F (rowT e size (.slice A' N c') N (xs ++ news))) w' → wpList P ops Q rest (a.put o.dst (.slice A' N c')) w') : wpList P ops Q (o :: rest) a w := by
  have hm : (n + m) * bytes ≤ 1000000000 * 1000 := Nat.mul_le_mul h63 hbytes
  obtain ⟨A', c', w', hrun, hb⟩ := run_append_off (P := P) t tx o.type e z size bytes ht hi hzs v n xs (hM.thing _ (mem_of_updR hR)) y m news hs (by unfold maxLen; omega) (by omega)
  refine wpList_plain hgd fun K hK => ?_
  unfold Oper.wp execOp
  simp only [ho, resolve, invoke, builtin, Sem.run_bind, Sem.run_pure, Result.andThen_ok, List.map_toArray, List.map_cons, List.map_nil, hv, hy, hrun]
  exact hK _ _ (h A' _ c' w' rfl (hM.turn hR hb))
end
end Go.Thg
namespace Go.Proofs.YtcfojkecmchbdaaDoor
open Go Go.RowKit Go.Bul Go.Thg Go.Lin
/-- A row of bytes; of windows. -/
def bT (v : Value) (xs : List Nat) : Thing := rowT 5 1 v xs.length (vals .u8 xs)
theorem bT_form {v : Value} {xs : List Nat} {w : World} (h : (bT v xs).P w) : ∃ A c, v = .slice A xs.length c ∧ xs.length ≤ c := by
  obtain ⟨A, c, h1, h2, _⟩ := OffRow.form h
  exact ⟨A, c, h1, h2⟩
theorem bT_reads {A : Option Addr} {n c : Nat} {xs : List Nat} {w : World} (h : (bT (.slice A n c) xs).P w) : Reads w 1 A n (vals .u8 xs) ∧ n = xs.length ∧ n ≤ c := by
  obtain ⟨A', c', h1, h2⟩ := bT_form h
  have e1 : n = xs.length := by injection h1
  have e2 : c = c' := by injection h1
  subst e1 e2
  exact ⟨OffRow.reads h, rfl, h2⟩
section
variable {w w0 : World} {G : List Nat} {L : List Ent} {R : List Thing} {ops : Array Oper} {rest : List Oper} {o : Oper} {a : Act} {Q : Exit → Act → World → Prop} {s x : Operand} {tx : TypeId} {v y : Value} {xs ys : List Nat} {m : Nat} {F : Thing → List Thing}
/-- append bytes onto a row of bytes. -/
theorem la (hs : Src Tryd.prog 1 tx y m (vals .u8 ys) w) (hM : Mem G w0 L R w) (h63 : xs.length + ys.length ≤ 1000000000)
    (h : ∀ A' N c' w', Hid (N = (xs ++ ys).length) → Mem G w0 L (F (bT (.slice A' N c') (xs ++ ys))) w' → wpList Tryd.prog ops Q rest (a.put o.dst (.slice A' N c')) w')
    (hgd : o.guard = none := by rfl) (ho : o.op = .call { callee := .builtin .append, args := #[s, x], argTypes := #[22, tx] } := by rfl) (hv : a.eval s = v := by rfl) (hR : UpdR (bT v xs) R F := by repeat (first | exact UpdR.head _ _ | apply UpdR.tail)) (hy : a.eval x = y := by rfl) : wpList Tryd.prog ops Q (o :: rest) a w := by
  have hl : m = ys.length := by have := hs.newsLen; simp at this; omega
  subst hl
  refine wpList_append_thing hM 22 tx 5 (.int .u8 0) 1 1 Tryd.underlying22 info_byte rfl hgd s x ho v hv xs.length (vals .u8 xs) F hR y hy _ _ hs h63 (by decide) fun A' N c' w' hN hm => ?_
  refine h A' N c' w' (Lib.hid (by simp [hN])) ?_
  have e : bT (.slice A' N c') (xs ++ ys) = rowT 5 1 (.slice A' N c') N (vals .u8 xs ++ vals .u8 ys) := by
    unfold bT
    rw [hN]
    simp [vals]
  rw [e]
  exact hm
end
section
variable {w w0 : World} {G : List Nat} {L : List Ent} {R : List Thing} {ops : Array Oper} {rest : List Oper} {o : Oper} {a : Act} {Q : Exit → Act → World → Prop} {x y : Operand} {A : Option Addr} {n c k i g : Nat} {t ty : TypeId} {cs : Array Value} {v : Value} {T e : TypeId} {size : Nat}
theorem lsl_hi (ht : Tryd.prog.underlying T = some (.slice e)) (hs : (Tryd.prog.info? e).map (·.size) = some size) (hk : k ≤ c) (hA : advA A 0 c size = A) (h : wpList Tryd.prog ops Q rest (a.put o.dst (.slice A k c)) w) (hgd : o.guard = none := by rfl) (ho : o.op = .slice T x none (some y) none := by rfl) (hx : a.eval x = .slice A n c := by rfl) (hy : a.eval y = .int .i64 (k : Nat) := by rfl) : wpList Tryd.prog ops Q (o :: rest) a w :=
  wpList_plain hgd fun K hK => by
    have hr := run_slice_hi T e size ht hs A n c k hk w
    rw [hA] at hr
    unfold Oper.wp execOp
    simp only [ho, hx, hy, Option.map_some, Option.map_none, Sem.run_bind, hr, Result.andThen_ok, Sem.run_pure]
    exact hK _ _ h
theorem lsl_lo (ht : Tryd.prog.underlying T = some (.slice e)) (hs : (Tryd.prog.info? e).map (·.size) = some size) (hk : k ≤ n) (hn : n ≤ c) (h : wpList Tryd.prog ops Q rest (a.put o.dst (.slice (advA A k c size) (n - k) (c - k))) w) (hgd : o.guard = none := by rfl) (ho : o.op = .slice T x (some y) none none := by rfl) (hx : a.eval x = .slice A n c := by rfl) (hy : a.eval y = .int .i64 (k : Nat) := by rfl) : wpList Tryd.prog ops Q (o :: rest) a w :=
  wpList_plain hgd fun K hK => by
    have hr := run_slice_lo T e size ht hs A n c k hk hn w
    unfold Oper.wp execOp
    simp only [ho, hx, hy, Option.map_some, Option.map_none, Sem.run_bind, hr, Result.andThen_ok, Sem.run_pure]
    exact hK _ _ h
theorem lcx (hv : cs[i]? = some v) (hM : Mem G w0 L R w) (h : wpList Tryd.prog ops Q rest (a.put o.dst v) w) (hgd : o.guard = none := by rfl) (ho : o.op = .load ty x := by rfl) (hx : a.eval x = .pointer (some ⟨g, i, none⟩) := by rfl) (hL : ⟨g, t, n, cs⟩ ∈ L := by repeat (first | exact List.Mem.head _ | apply List.Mem.tail)) (hty : OneTy Tryd.prog ty := by first | exact one_int | exact one_bool | exact one_u8 | exact one_bytes | exact one_sN | exact one_sRN | exact one_ssN | exact one_errno) : wpList Tryd.prog ops Q (o :: rest) a w :=
  wpList_mem_cell hM hgd ty x ho g i hx t n cs hL hty v hv h
theorem lsx {F : Array Value → List Ent} (hi : i < n) (hM : Mem G w0 L R w) (h : ∀ w', Mem G w0 (F (cs.setIfInBounds i v)) R w' → wpList Tryd.prog ops Q rest a w') (hgd : o.guard = none := by rfl) (ho : o.op = .store ty x y := by rfl) (hx : a.eval x = .pointer (some ⟨g, i, none⟩) := by rfl) (hy : a.eval y = v := by rfl) (hL : UpdL g t n cs L F := by repeat (first | exact UpdL.head _ _ _ _ _ | apply UpdL.tail)) (hty : OneTy Tryd.prog ty := by first | exact one_int | exact one_bool | exact one_u8 | exact one_bytes | exact one_sN | exact one_sRN | exact one_ssN | exact one_errno) (h1 : v.oneCell' = true := by rfl) (hdst : o.dst = none := by rfl) : wpList Tryd.prog ops Q (o :: rest) a w :=
  wpList_mem_set_to hM hgd ty x y ho g i hx v hy t n cs F hL hty hi h1 hdst _ rfl h
end
theorem adv_zero {w : World} {e : TypeId} {size : Nat} {A : Option Addr} {n c : Nat} {xs : List Value} (h : OffRow w e size (.slice A n c) n xs) : advA A 0 c size = A := by
  obtain ⟨_, B, d, hb, _, _, h5⟩ := h
  have e1 : A = B := by injection hb
  have e2 : c = d := by injection hb
  subst e1 e2
  unfold advA
  by_cases hc : c = 0
  · rw [if_pos hc]
  · rw [if_neg hc]
    obtain ⟨g, off, cur, rfl, _⟩ := h5 (by omega)
    simp [addr_at]
/-- The rest of a row of bytes. -/
theorem bT_rest {w : World} {A : Option Addr} {n c : Nat} {xs : List Nat} (h : (bT (.slice A n c) xs).P w) (k : Nat) (hk : k ≤ n) : Becomes (bT (.slice A n c) xs).fp w (bT (.slice (advA A k c 1) (n - k) (c - k)) (xs.drop k)) w := by
  obtain ⟨_, hn, _⟩ := bT_reads h
  subst hn
  obtain ⟨h1, h2⟩ := OffRow.adv h k hk
  refine ⟨?_, KeptBut.refl _ _, fun g hg => .inl (h2 g hg)⟩
  show OffRow _ _ _ _ (xs.drop k).length _
  have e : vals .u8 (xs.drop k) = (vals .u8 xs).drop (k * 1) := by simp [vals, List.map_drop]
  rw [List.length_drop, e]
  exact h1
theorem size_byte : (Tryd.prog.info? 5).map (·.size) = some 1 := by kernel_rfl
end Go.Proofs.YtcfojkecmchbdaaDoor
