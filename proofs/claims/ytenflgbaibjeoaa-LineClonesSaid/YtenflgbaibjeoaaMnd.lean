/- Rows of the reference's bytes under way. The reference's line as a thing; contracts of Send, Receive, Drop, New in a frame. -/
import Derived.Test.YtenflgbaibjeoaaLqr
import Derived.Great.BuildSlice
import Derived.Test.YtenflgbaibjeoaaRgm
import Derived.Test.YtenflgbaibjeoaaLqs
namespace Go.Proofs.Ytenflgbaibjeoaa
open Go Go.RowKit Go.Bul Go.Thg Go.Lin
theorem bCells_length (y : BW) : (bCells y).length = y.length * 2 := by
  induction y with
  | nil => rfl
  | cons x y ih => simp only [bCells, List.flatMap_cons, List.length_append, List.length_cons, List.length_nil] at ih ⊢; omega
theorem bCells_one (y : BW) : ∀ u ∈ bCells y, u.oneCell' = true := by
  intro u hu
  obtain ⟨x, _, hx⟩ := List.mem_flatMap.1 hu
  simp only [List.mem_cons, List.not_mem_nil, or_false] at hx
  rcases hx with rfl | rfl <;> rfl
theorem bCells_get : ∀ (y : BW) (i : Nat) (h : i < y.length), (bCells y)[i * 2]? = some (.int .u8 y[i].1) ∧ (bCells y)[i * 2 + 1]? = some (.int .i64 y[i].2)
  | x :: y, 0, _ => ⟨rfl, rfl⟩
  | x :: y, i + 1, h => by
    have := bCells_get y i (by simpa using h)
    have e : bCells (x :: y) = .int .u8 x.1 :: .int .i64 x.2 :: bCells y := rfl
    rw [e, show (i + 1) * 2 = i * 2 + 1 + 1 by omega, show i * 2 + 1 + 1 + 1 = (i * 2 + 1) + 1 + 1 by omega]
    simpa using this
theorem reads_b {w : World} {A : Option Addr} {y : BW} (h : Reads w 2 A y.length (bCells y)) (i : Nat) (hi : i < y.length) :
    ∃ g off, A = some ⟨g, off, none⟩ ∧ g < w.heap.size ∧ ∀ j u, (#[.int .u8 y[i].1, .int .i64 y[i].2] : Array Value)[j]? = some u → w.cell? ⟨g, off + i * 2 + j, none⟩ = some u := by
  obtain ⟨g, off, rfl, hg, hx⟩ := h.2 (by omega)
  obtain ⟨c0, c1⟩ := bCells_get y i hi
  refine ⟨g, off, rfl, hg, fun j u hu => ?_⟩
  match j, hu with
  | 0, hu => simp at hu; subst hu; exact hx _ _ c0
  | 1, hu => simp at hu; subst hu; have := hx _ _ c1; rwa [← Nat.add_assoc] at this
  | j + 2, hu => simp at hu
/-- A row of bytes under way. -/
def byT (v : Value) (y : BW) : Thing := rowT 110 2 v y.length (bCells y)
theorem byT_reads {A : Option Addr} {n c : Nat} {y : BW} {w : World} (h : (byT (.slice A n c) y).P w) : Reads w 2 A y.length (bCells y) := by
  have h' : OffRow w 110 2 (.slice A n c) y.length (bCells y) := h
  obtain ⟨A', c', he, _⟩ := h'.form
  have e : n = y.length := by injection he
  subst e
  exact OffRow.reads h'
theorem b_src {w : World} {A : Option Addr} {c : Nat} {y : BW} (h : Reads w 2 A y.length (bCells y)) : Src Try.prog 2 61 (.slice A y.length c) y.length (bCells y) w := Reads.src h Try.underlying61 (bCells_one _)
section
variable {w w0 : World} {G : List Nat} {L : List Ent} {R : List Thing} {ops : Array Oper} {rest : List Oper} {o : Oper} {a : Act} {Q : Exit → Act → World → Prop}
theorem becomes_bzero {G : List Nat} {w w' : World} (A : Option Addr) (h : KeptBut G w w') : Becomes G w (byT (.slice A 0 0) []) w' :=
  ⟨OffRow.empty w' _ _ A, h, fun g hg => by rw [show (byT (.slice A 0 0) []).fp = [] from sFp_zero] at hg; cases hg⟩
theorem run_bnone (w : World) : (Instr.buildSlice 61 0 #[]).run Try.prog w = .ok (.slice (some ⟨w.heap.size, 0, none⟩) 0 0) (w.alloc (.cells #[] 110)) := by
  have h : (Try.prog.info? 110).map (·.size) = some 2 := by kernel_rfl
  cases hq : Try.prog.info? 110 with
  | none => rw [hq] at h; simp at h
  | some i =>
    rw [hq] at h
    simp [Instr.buildSlice, run_underlying Try.underlying61, sizeOf, typeInfo, hq, newRow, Instr.fill]
    have e : (Array.map (fun _ => (default : Value)) (Array.range 0)) = #[] := Array.eq_empty_of_size_eq_zero (by simp)
    rw [e]
theorem run_bone (b t : Int) (w : World) : (Instr.buildSlice 61 1 #[(0, .agg #[.int .u8 b, .int .i64 t])]).run Try.prog w = .ok (.slice (some ⟨w.heap.size, 0, none⟩) 1 1) (w.alloc (.cells #[.int .u8 b, .int .i64 t] 110)) := by
  have h := info_B
  cases hq : Try.prog.info? 110 with
  | none => rw [hq] at h; simp at h
  | some i =>
    rw [hq] at h
    simp only [Option.map_some, Option.some.injEq, Prod.mk.injEq] at h
    refine run_buildSlice w _ _ 1 _ _ i _ Try.underlying61 hq h.1 (by rw [h.2.1]; decide) (by rw [h.2.1]; decide) ?_
    rw [h.2.1]
    have hz : Array.map (fun x => (Value.agg #[Value.int IntKind.u8 0, Value.int IntKind.i64 0]).cells[x % (Value.agg #[Value.int IntKind.u8 0, Value.int IntKind.i64 0]).cells.size]!) (Array.range (1 * 2)) = #[Value.int IntKind.u8 0, Value.int IntKind.i64 0] := by kernel_rfl
    rw [hz]
    simp [Instr.fill, Value.cells]
variable {s x : Operand} {v y : Value} {xs ys : BW} {m : Nat} {F : Thing → List Thing} {b t : Int}
/-- append bytes under way onto a row of them. -/
theorem laB (hs : Src Try.prog 2 61 y m (bCells ys) w) (hM : Mem G w0 L R w) (h63 : xs.length + ys.length ≤ 1000000000)
    (h : ∀ A' N c' w', Hid (N = (xs ++ ys).length) → Mem G w0 L (F (byT (.slice A' N c') (xs ++ ys))) w' → wpList Try.prog ops Q rest (a.put o.dst (.slice A' N c')) w')
    (hgd : o.guard = none := by rfl) (ho : o.op = .call { callee := .builtin .append, args := #[s, x], argTypes := #[61, 61] } := by rfl) (hv : a.eval s = v := by rfl) (hR : UpdR (byT v xs) R F := by repeat (first | exact UpdR.head _ _ | apply UpdR.tail)) (hy : a.eval x = y := by rfl) : wpList Try.prog ops Q (o :: rest) a w := by
  have hl : m = ys.length := by have := hs.newsLen; rw [bCells_length] at this; omega
  subst hl
  refine wpList_append_thing hM 61 _ 110 (.agg #[.int .u8 0, .int .i64 0]) 2 16 Try.underlying61 info_B rfl hgd s x ho v hv xs.length (bCells xs) F hR y hy _ _ hs h63 (by decide) fun A' N c' w' hN hm => ?_
  refine h A' N c' w' (Lib.hid (by simp [hN])) ?_
  have e : byT (.slice A' N c') (xs ++ ys) = rowT 110 2 (.slice A' N c') N (bCells xs ++ bCells ys) := by
    unfold byT
    rw [hN]
    simp [bCells]
  rw [e]
  exact hm
/-- A slice literal of none. -/
theorem lbBn (hM : Mem G w0 L R w) (h : ∀ g w', Mem G w0 L (byT (.slice (some ⟨g, 0, none⟩) 0 0) [] :: R) w' → wpList Try.prog ops Q rest (a.put o.dst (.slice (some ⟨g, 0, none⟩) 0 0)) w')
    (hgd : o.guard = none := by rfl) (ho : o.op = .buildSlice 61 0 #[] := by rfl) : wpList Try.prog ops Q (o :: rest) a w := by
  refine wpList_plain hgd fun K hK => ?_
  unfold Oper.wp execOp
  simp only [ho, List.map_toArray, List.map_nil, Sem.run_bind, run_bnone, Result.andThen_ok]
  exact hK _ _ (h _ _ ((hM.step ((Below.refl _ _).alloc (Nat.le_refl _) (.cells #[] 110))).newThing (becomes_bzero _ (KeptBut.refl _ _))))
/-- A slice of one, written out. -/
theorem lbB (hM : Mem G w0 L R w) (h : ∀ g w', Mem G w0 (⟨g, 110, 2, #[.int .u8 b, .int .i64 t]⟩ :: L) R w' → wpList Try.prog ops Q rest (a.put o.dst (.slice (some ⟨g, 0, none⟩) 1 1)) w')
    (hgd : o.guard = none := by rfl) (ho : o.op = .buildSlice 61 1 #[(0, x)] := by rfl) (hx : a.eval x = .agg #[.int .u8 b, .int .i64 t] := by rfl) : wpList Try.prog ops Q (o :: rest) a w := by
  refine wpList_plain hgd fun K hK => ?_
  unfold Oper.wp execOp
  simp only [ho, List.map_toArray, List.map_cons, List.map_nil, hx, Sem.run_bind, run_bone, Result.andThen_ok]
  exact hK _ _ (h _ _ (hM.alloc _ _ rfl))
theorem breads_one {g : Nat} {b : Nat} (hM : Mem G w0 L R w) (hL : ⟨g, 110, 2, #[.int .u8 (b : Nat), .int .i64 t]⟩ ∈ L) : Reads w 2 (some ⟨g, 0, none⟩) [(b, t)].length (bCells [(b, t)]) := by
  have hB := hM.blk hL
  refine ⟨rfl, fun _ => ⟨g, 0, rfl, hB.lt, fun j u hu => (hB.cell _).trans ?_⟩⟩
  rw [Nat.zero_add]
  simpa [bCells] using hu
end
end Go.Proofs.Ytenflgbaibjeoaa
namespace Go.Lin
/-- A list without twins. -/
def dd : List Nat → List Nat
  | [] => []
  | a :: l => if a ∈ l then dd l else a :: dd l
theorem mem_dd {g : Nat} : ∀ {l : List Nat}, g ∈ dd l ↔ g ∈ l
  | [] => Iff.rfl
  | a :: l => by
    have ih := mem_dd (g := g) (l := l)
    unfold dd
    split
    · rename_i h
      rw [ih]
      exact ⟨List.mem_cons_of_mem _, fun hg => (List.mem_cons.1 hg).elim (fun e => e ▸ h) id⟩
    · simp only [List.mem_cons, ih]
theorem nodup_dd : ∀ l : List Nat, (dd l).Nodup
  | [] => List.nodup_nil
  | a :: l => by
    unfold dd
    split
    · exact nodup_dd l
    · rename_i h
      exact List.nodup_cons.2 ⟨fun hg => h (mem_dd.1 hg), nodup_dd l⟩
end Go.Lin
namespace Go.Proofs.Ytenflgbaibjeoaa
open Go Go.RowKit Go.Bul Go.Thg Go.Lin
/-- The blocks that a slice reads. -/
def aFp (A : Option Addr) (n : Nat) : List Nat := match A, n with
  | some a, _ + 1 => [a.block]
  | _, _ => []
theorem aFp_zero (A : Option Addr) : aFp A 0 = [] := by cases A <;> rfl
theorem aFp_pos {a : Addr} {n : Nat} (h : 0 < n) : aFp (some a) n = [a.block] := by
  cases n with
  | zero => omega
  | succ n => rfl
theorem reads_lt {w : World} {size n : Nat} {A : Option Addr} {xs : List Value} (h : Reads w size A n xs) : ∀ g ∈ aFp A n, g < w.heap.size := by
  intro g hg
  rcases Nat.eq_zero_or_pos n with hn | hn
  · subst hn; rw [aFp_zero] at hg; cases hg
  · obtain ⟨g', off, rfl, h2, _⟩ := h.2 hn
    rw [aFp_pos hn] at hg
    rw [List.mem_singleton.1 hg]
    exact h2
theorem reads_far {w w' : World} {size n : Nat} {A : Option Addr} {xs : List Value} (h : Reads w size A n xs) (hk : ∀ g ∈ aFp A n, w'.heap[g]? = w.heap[g]?) : Reads w' size A n xs :=
  ⟨h.1, fun hn => by
    obtain ⟨g, off, rfl, h2, h3⟩ := h.2 hn
    have e := hk g (by rw [aFp_pos hn]; simp)
    refine ⟨g, off, rfl, ?_, fun j u hu => (World.cell?_of_block (w := w) e).trans (h3 j u hu)⟩
    rw [Array.getElem?_eq_getElem h2] at e
    exact (Array.getElem?_eq_some_iff.1 e).1⟩
/-- The blocks that a line of the reference reads. -/
def rFp (T : RL) (v : RV) : List Nat := dd (aFp v.A T.ws.length ++ (aFp v.y0 T.y0.length ++ aFp v.y1 T.y1.length))
theorem mem_rFp {T : RL} {v : RV} {g : Nat} : g ∈ rFp T v ↔ g ∈ aFp v.A T.ws.length ∨ g ∈ aFp v.y0 T.y0.length ∨ g ∈ aFp v.y1 T.y1.length := by
  unfold rFp
  rw [mem_dd, List.mem_append, List.mem_append]
theorem RIn.far {w w' : World} {T : RL} {v : RV} (h : RIn w T v) (hk : ∀ g ∈ rFp T v, w'.heap[g]? = w.heap[g]?) : RIn w' T v :=
  ⟨reads_far h.ws fun g hg => hk g (mem_rFp.2 (.inl hg)), reads_far h.y0 fun g hg => hk g (mem_rFp.2 (.inr (.inl hg))), reads_far h.y1 fun g hg => hk g (mem_rFp.2 (.inr (.inr hg)))⟩
theorem RIn.lt {w : World} {T : RL} {v : RV} (h : RIn w T v) : ∀ g ∈ rFp T v, g < w.heap.size := by
  intro g hg
  rcases mem_rFp.1 hg with hg | hg | hg
  · exact reads_lt h.ws g hg
  · exact reads_lt h.y0 g hg
  · exact reads_lt h.y1 g hg
/-- What a line of the reference reads, as a thing. -/
def refT (T : RL) (v : RV) : Thing := ⟨rFp T v, fun w => RIn w T v, fun _ _ hk h => h.far hk, fun _ h => h.lt, fun _ _ => nodup_dd _⟩
/-- The other line reads old blocks or new ones. -/
def RSub (n : Nat) (T : RL) (v : RV) (T' : RL) (v' : RV) : Prop := ∀ g ∈ rFp T' v', g ∈ rFp T v ∨ n ≤ g
theorem becomes_ref {w w' : World} {T T' : RL} {v v' : RV} (hR : RIn w' T' v') (hb : Below w.heap.size w w') (hs : RSub w.heap.size T v T' v') : Becomes (refT T v).fp w (refT T' v') w' := ⟨hR, KeptBut.of_below hb, hs⟩
theorem RIn.same {w : World} {T T' : RL} {v : RV} (h : RIn w T v) (e1 : T'.ws = T.ws) (e2 : T'.y0 = T.y0) (e3 : T'.y1 = T.y1) : RIn w T' v :=
  ⟨by rw [e1]; exact h.ws, by rw [e2]; exact h.y0, by rw [e3]; exact h.y1⟩
theorem RSub.same (n : Nat) {T T' : RL} (v : RV) (e1 : T'.ws = T.ws) (e2 : T'.y0 = T.y0) (e3 : T'.y1 = T.y1) : RSub n T v T' v := fun g hg => .inl (by
  rw [mem_rFp] at hg ⊢
  rw [e1, e2, e3] at hg
  exact hg)
/-- What the line reads when nothing is under way. -/
theorem RSub.down (n : Nat) {T T' : RL} {v : RV} {B C : Option Addr} {c0 c1 : Nat} (e1 : T'.ws = T.ws) (e2 : T'.y0 = []) (e3 : T'.y1 = []) : RSub n T v T' ⟨v.A, v.c, B, c0, C, c1⟩ := fun g hg => .inl (by
  rw [mem_rFp] at hg ⊢
  rw [e1, e2, e3] at hg
  rcases hg with hg | hg | hg
  · exact .inl hg
  · rw [List.length_nil, aFp_zero] at hg; cases hg
  · rw [List.length_nil, aFp_zero] at hg; cases hg)
section
variable {w w0 : World} {G : List Nat} {L : List Ent} {R : List Thing} {F : Thing → List Thing} {T T' : RL} {v : RV}
theorem refT_in (hM : Mem G w0 L R w) (h : refT T v ∈ R) : RIn w T v := hM.thing _ h
theorem turnRef {w' : World} {v' : RV} (hM : Mem G w0 L R w) (hu : UpdR (refT T v) R F) (hR : RIn w' T' v') (hb : Below w.heap.size w w') (hs : RSub w.heap.size T v T' v') : Mem G w0 L (F (refT T' v')) w' := hM.turn hu (becomes_ref hR hb hs)
theorem rsend_in (s : Int) (t : ByteArray) (hM : Mem G w0 L R w) (hu : UpdR (refT T v) R F) (h0 : T.w0.length ≤ 1000000000) (h1 : T.w1.length ≤ 1000000000) (ht : t.size ≤ 1000000000) :
    Calls Try.prog 49 #[.agg (refCs T v), .int .i64 s, .string t] w fun e w' => e = .returned (.tuple #[.agg (refCs (sendR T s (nums t)) v), .int .i64 (sendER T s t.size)]) ∧ Mem G w0 L (F (refT (sendR T s (nums t)) v)) w' := by
  refine (rsend_any T v s t w h0 h1 ht).mono ?_
  rintro e w' ⟨rfl, hb⟩
  have hI := (refT_in hM (mem_of_updR hu)).keep hb
  have e1 : (sendR T s (nums t)).ws = T.ws := by unfold sendR; (repeat' split) <;> rfl
  have e2 : (sendR T s (nums t)).y0 = T.y0 := by unfold sendR; (repeat' split) <;> rfl
  have e3 : (sendR T s (nums t)).y1 = T.y1 := by unfold sendR; (repeat' split) <;> rfl
  exact ⟨rfl, turnRef hM hu (hI.same e1 e2 e3) hb (RSub.same _ _ e1 e2 e3)⟩
theorem rdrop_in (hM : Mem G w0 L R w) (hu : UpdR (refT T v) R F) :
    Calls Try.prog 38 #[.agg (refCs T v)] w fun e w' => ∃ v', e = .returned (.tuple #[.agg (refCs (if T.up then downR T else T) v'), .int .i64 (if T.up then 0 else 26)]) ∧ Mem G w0 L (F (refT (if T.up then downR T else T) v')) w' := by
  refine (rdrop_any T v w).mono ?_
  rintro e w' ⟨rfl, hb⟩
  have hI := (refT_in hM (mem_of_updR hu)).keep hb
  refine ⟨_, rfl, ?_⟩
  cases hT : T.up with
  | true => exact turnRef hM hu ⟨hI.ws, Reads.nil _ _ _, Reads.nil _ _ _⟩ hb (RSub.down _ rfl rfl rfl)
  | false => exact turnRef hM hu hI hb (RSub.same _ _ rfl rfl rfl)
/-- What the reference's Receive says, takes, leaves. -/
def recvER (s n : Int) : Int := if (s ≠ 0 ∧ s ≠ 1) ∨ n < 0 then 2 else 0
def recvTR (T : RL) (s n : Int) : List Nat := if (s ≠ 0 ∧ s ≠ 1) ∨ n < 0 then [] else if s = 0 then T.a0.take n.toNat else T.a1.take n.toNat
def recvSR (T : RL) (s n : Int) : RL := if (s ≠ 0 ∧ s ≠ 1) ∨ n < 0 then T else recvR T s n.toNat
theorem rrecv_in (s n : Int) (hM : Mem G w0 L R w) (hu : UpdR (refT T v) R F) (h0 : T.a0.length ≤ 1000000000) (h1 : T.a1.length ≤ 1000000000) :
    Calls Try.prog 50 #[.agg (refCs T v), .int .i64 s, .int .i64 n] w fun e w' => e = .returned (.tuple #[.agg (refCs (recvSR T s n) v), .string (bstr (recvTR T s n)), .int .i64 (recvER s n)]) ∧ Mem G w0 L (F (refT (recvSR T s n) v)) w' := by
  have hin := mem_of_updR hu
  have e1 : (recvSR T s n).ws = T.ws := by unfold recvSR recvR; (repeat' split) <;> rfl
  have e2 : (recvSR T s n).y0 = T.y0 := by unfold recvSR recvR; (repeat' split) <;> rfl
  have e3 : (recvSR T s n).y1 = T.y1 := by unfold recvSR recvR; (repeat' split) <;> rfl
  have fin : ∀ w', Below w.heap.size w w' → Mem G w0 L (F (refT (recvSR T s n) v)) w' := fun w' hb => turnRef hM hu (((refT_in hM hin).keep hb).same e1 e2 e3) hb (RSub.same _ _ e1 e2 e3)
  by_cases hb : (s ≠ 0 ∧ s ≠ 1) ∨ n < 0
  · refine (rrecv_no T v s n w hb).mono ?_
    rintro e w' ⟨rfl, hk⟩
    refine ⟨?_, fin w' hk⟩
    unfold recvSR recvTR recvER
    rw [if_pos hb, if_pos hb, if_pos hb]
    rfl
  · rcases (show s = 0 ∨ s = 1 by omega) with rfl | rfl
    · refine (rrecv_0 T v n w (by omega) h0).mono ?_
      rintro e w' ⟨rfl, hk⟩
      refine ⟨?_, fin w' hk⟩
      unfold recvSR recvTR recvER
      rw [if_neg hb, if_neg hb, if_neg hb, if_pos rfl]
    · refine (rrecv_1 T v n w (by omega) h1).mono ?_
      rintro e w' ⟨rfl, hk⟩
      refine ⟨?_, fin w' hk⟩
      unfold recvSR recvTR recvER
      rw [if_neg hb, if_neg hb, if_neg hb, if_neg (by decide)]
end
end Go.Proofs.Ytenflgbaibjeoaa
