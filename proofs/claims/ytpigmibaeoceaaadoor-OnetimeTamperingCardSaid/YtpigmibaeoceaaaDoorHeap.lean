/- A heap predicate: blocks that are known whole and rows of the call's own, whose addresses stay names; the operations on it. -/
import Derived.Test.YtpigmibaeoceaaaDoorApp
namespace Go.Bul
open Go Go.RowKit
/-- So many zeros. -/
def zeros (n : Nat) : List Nat := List.replicate n 0
@[simp] theorem zeros_length (n : Nat) : (zeros n).length = n := List.length_replicate
theorem zeros_size (k : IntKind) (n : Nat) : (cellsOf k (zeros n)).size = n := by rw [cellsOf_size, zeros_length]
theorem bytes_zeros (n : Nat) : Bytes (zeros n) := fun x hx => by have := List.eq_of_mem_replicate hx; omega
/-- A block: its number, type, size, cells. -/
structure Ent where
  g : Nat
  t : TypeId
  n : Nat
  cs : Array Value
/-- A row of the call's own: its element's type and size, the slice, its length, its cells. -/
structure OwnR where
  e : TypeId
  size : Nat
  v : Value
  n : Nat
  xs : List Value
/-- All that lay before is as it was, but for the blocks of G. -/
structure KeptBut (G : List Nat) (w w' : World) : Prop where
  os : w'.os = w.os
  tape : w'.tape = w.tape
  output : w'.output = w.output
  size : w.heap.size ≤ w'.heap.size
  block : ∀ k, k < w.heap.size → k ∉ G → w'.heap[k]? = w.heap[k]?
theorem KeptBut.refl (G : List Nat) (w : World) : KeptBut G w w := ⟨rfl, rfl, rfl, Nat.le_refl _, fun _ _ _ => rfl⟩
theorem KeptBut.trans {G : List Nat} {a b c : World} (h : KeptBut G a b) (k : KeptBut G b c) : KeptBut G a c :=
  ⟨k.os.trans h.os, k.tape.trans h.tape, k.output.trans h.output, Nat.le_trans h.size k.size, fun i hi hn => (k.block i (Nat.lt_of_lt_of_le hi h.size) hn).trans (h.block i hi hn)⟩
theorem KeptBut.of_below {G : List Nat} {w w' : World} (h : Below w.heap.size w w') : KeptBut G w w' := ⟨h.os, h.tape, h.output, h.size, fun i hi _ => h.block i hi⟩
theorem KeptBut.below {w w' : World} (h : KeptBut [] w w') : Below w.heap.size w w' := ⟨h.os, h.tape, h.output, h.size, fun i hi => h.block i hi (by simp)⟩
theorem KeptBut.only {g : Nat} {w w' : World} (h : KeptBut [g] w w') : Only g w w' := ⟨h.os, h.tape, h.output, h.size, fun i hi hne => h.block i hi (by simp; rintro rfl; exact hne rfl)⟩
/-- A step that changes only what is new or in G. -/
theorem KeptBut.then {G : List Nat} {a w w' : World} (h : KeptBut G a w) (hos : w'.os = w.os) (ht : w'.tape = w.tape) (ho : w'.output = w.output) (hs : w.heap.size ≤ w'.heap.size)
    (hb : ∀ k, k < a.heap.size → k ∉ G → w'.heap[k]? = w.heap[k]?) : KeptBut G a w' :=
  ⟨hos.trans h.os, ht.trans h.tape, ho.trans h.output, Nat.le_trans h.size hs, fun i hi hn => (hb i hi hn).trans (h.block i hi hn)⟩
structure Mem (G : List Nat) (w0 : World) (L : List Ent) (R : List OwnR) (w : World) : Prop where
  old : KeptBut G w0 w
  at_ : ∀ b ∈ L, (w0.heap.size ≤ b.g ∨ b.g ∈ G) ∧ Blk w b.g b.t b.cs ∧ b.cs.size = b.n
  ne : L.Pairwise fun b c => b.g ≠ c.g
  rows : ∀ r ∈ R, w.ownsRow w0.heap.size r.e r.size r.v r.n r.xs
  apart : ∀ r ∈ R, ∀ b ∈ L, r.v.ownBlock ≠ some b.g
  rne : R.Pairwise fun r s => r.v.ownBlock = none ∨ r.v.ownBlock ≠ s.v.ownBlock
/-- Where a block stands in a list, and the list with other cells there. -/
def UpdL (g : Nat) (t : TypeId) (n : Nat) (cs : Array Value) (L : List Ent) (F : Array Value → List Ent) : Prop := ∃ A B, L = A ++ ⟨g, t, n, cs⟩ :: B ∧ ∀ cs', F cs' = A ++ ⟨g, t, n, cs'⟩ :: B
theorem UpdL.head (g : Nat) (t : TypeId) (n : Nat) (cs : Array Value) (L : List Ent) : UpdL g t n cs (⟨g, t, n, cs⟩ :: L) (fun cs' => ⟨g, t, n, cs'⟩ :: L) := ⟨[], L, rfl, fun _ => rfl⟩
theorem UpdL.tail {g : Nat} {t : TypeId} {n : Nat} {cs : Array Value} {L : List Ent} {F : Array Value → List Ent} (b : Ent) (h : UpdL g t n cs L F) : UpdL g t n cs (b :: L) (fun cs' => b :: F cs') := by
  obtain ⟨A, B, rfl, h2⟩ := h
  exact ⟨b :: A, B, rfl, fun cs' => by show _ :: _ = _; rw [h2]; rfl⟩
def UpdR (r : OwnR) (R : List OwnR) (F : OwnR → List OwnR) : Prop := ∃ A B, R = A ++ r :: B ∧ ∀ r', F r' = A ++ r' :: B
theorem UpdR.head (r : OwnR) (R : List OwnR) : UpdR r (r :: R) (fun r' => r' :: R) := ⟨[], R, rfl, fun _ => rfl⟩
theorem UpdR.tail {r : OwnR} {R : List OwnR} {F : OwnR → List OwnR} (b : OwnR) (h : UpdR r R F) : UpdR r (b :: R) (fun r' => b :: F r') := by
  obtain ⟨A, B, rfl, h2⟩ := h
  exact ⟨b :: A, B, rfl, fun cs' => by show _ :: _ = _; rw [h2]; rfl⟩
section
variable {G : List Nat} {w0 w w' : World} {L L' : List Ent} {R R' : List OwnR}
theorem Mem.start (G : List Nat) (w : World) : Mem G w [] [] w := ⟨KeptBut.refl _ _, by simp, .nil, by simp, by simp, .nil⟩
theorem Mem.blk (h : Mem G w0 L R w) {b : Ent} (hb : b ∈ L) : Blk w b.g b.t b.cs := (h.at_ b hb).2.1
theorem Mem.lt (h : Mem G w0 L R w) {b : Ent} (hb : b ∈ L) : b.g < w.heap.size := (h.blk hb).lt
theorem Mem.size (h : Mem G w0 L R w) {g : Nat} {t : TypeId} {n : Nat} {cs : Array Value} (hb : ⟨g, t, n, cs⟩ ∈ L) : cs.size = n := (h.at_ _ hb).2.2
theorem Mem.below (h : Mem [] w0 L R w) : Below w0.heap.size w0 w := h.old.below
theorem Mem.le (h : Mem G w0 L R w) : w0.heap.size ≤ w.heap.size := h.old.size
theorem Mem.same (h : Mem G w0 L R w) (hos : w'.os = w.os) (ht : w'.tape = w.tape) (ho : w'.output = w.output) (hs : w.heap.size ≤ w'.heap.size) (hb : ∀ k, k < w.heap.size → w'.heap[k]? = w.heap[k]?) : Mem G w0 L R w' := by
  have hB : Below w.heap.size w w' := ⟨hos, ht, ho, hs, hb⟩
  exact ⟨h.old.then hos ht ho hs (fun k hk _ => hb k (Nat.lt_of_lt_of_le hk h.le)), fun b hL => ⟨(h.at_ b hL).1, (h.blk hL).kept hB, (h.at_ b hL).2.2⟩, h.ne,
    fun r hr => World.ownsRow.kept (h.rows r hr) (row := none) ⟨hos, ht, ho, hs, fun i hi _ => hb i hi⟩ (by cases r.v.ownBlock <;> simp), h.apart, h.rne⟩
theorem Mem.step (h : Mem G w0 L R w) (hb : Below w.heap.size w w') : Mem G w0 L R w' := h.same hb.os hb.tape hb.output hb.size hb.block
theorem Mem.drew (h : Mem G w0 L R w) : Mem G w0 L R w.drew := h.same rfl rfl rfl (Nat.le_refl _) fun _ _ => rfl
theorem Mem.new (h : Mem G w0 L R w) (hb : Below w.heap.size w w') {g : Nat} {t : TypeId} {n : Nat} {cs : Array Value} (hg : w.heap.size ≤ g) (hB : Blk w' g t cs) (hn : cs.size = n) : Mem G w0 (⟨g, t, n, cs⟩ :: L) R w' := by
  have k := h.step hb
  refine ⟨k.old, ?_, ?_, k.rows, ?_, k.rne⟩
  · intro b hb
    rcases List.mem_cons.1 hb with rfl | hb
    · exact ⟨.inl (Nat.le_trans h.le hg), hB, hn⟩
    · exact k.at_ b hb
  · refine List.Pairwise.cons (fun b hb => ?_) k.ne
    have := h.lt hb
    show g ≠ b.g
    omega
  · intro r hr b hb
    rcases List.mem_cons.1 hb with rfl | hb
    · intro he
      have := (World.ownsRow.lt (h.rows r hr) _ he).2
      simp only at this
      omega
    · exact k.apart r hr b hb
theorem Mem.alloc (h : Mem G w0 L R w) (cs : Array Value) (t : TypeId) {n : Nat} (hn : cs.size = n) : Mem G w0 (⟨w.heap.size, t, n, cs⟩ :: L) R (w.alloc (.cells cs t)) :=
  h.new ((Below.refl _ _).alloc (Nat.le_refl _) _) (Nat.le_refl _) (Blk.new w _ _) hn
theorem Mem.newRow (h : Mem G w0 L R w) (hb : Below w.heap.size w w') {r : OwnR} (hr : w'.ownsRow w.heap.size r.e r.size r.v r.n r.xs) : Mem G w0 L (r :: R) w' := by
  have k := h.step hb
  have hlt := World.ownsRow.lt hr
  refine ⟨k.old, k.at_, k.ne, ?_, ?_, ?_⟩
  · intro s hs
    rcases List.mem_cons.1 hs with rfl | hs
    · refine ⟨hr.1, hr.2.imp id fun ⟨g, cap, cur, e, hbg, rest⟩ => ⟨g, cap, cur, e, Nat.le_trans h.le hbg, rest⟩⟩
    · exact k.rows s hs
  · intro s hs b hb
    rcases List.mem_cons.1 hs with rfl | hs
    · intro he
      have h1 := (hlt _ he).1
      have h2 := h.lt hb
      omega
    · exact k.apart s hs b hb
  · refine List.Pairwise.cons (fun s hs => ?_) k.rne
    cases hv : r.v.ownBlock with
    | none => exact .inl rfl
    | some j =>
      refine .inr fun he => ?_
      have h1 := (hlt _ hv).1
      have h2 := (World.ownsRow.lt (h.rows s hs) _ he.symm).2
      omega
theorem Mem.subL (h : Mem G w0 L R w) (hs : L'.Sublist L) : Mem G w0 L' R w :=
  ⟨h.old, fun b hb => h.at_ b (hs.subset hb), h.ne.sublist hs, h.rows, fun r hr b hb => h.apart r hr b (hs.subset hb), h.rne⟩
theorem Mem.subR (h : Mem G w0 L R w) (hs : R'.Sublist R) : Mem G w0 L R' w :=
  ⟨h.old, h.at_, h.ne, fun r hr => h.rows r (hs.subset hr), fun r hr b hb => h.apart r (hs.subset hr) b hb, h.rne.sublist hs⟩
/-! Names for the blocks of a list. -/
theorem Mem.name1 {g n : Nat} {t : TypeId} {cs : Array Value} (_ : Mem G w0 (⟨g, t, n, cs⟩ :: L) R w) : ∃ x, x = g := ⟨_, rfl⟩
theorem Mem.name2 {g n : Nat} {t : TypeId} {cs : Array Value} {e1 : Ent} (_ : Mem G w0 (e1 :: ⟨g, t, n, cs⟩ :: L) R w) : ∃ x, x = g := ⟨_, rfl⟩
theorem Mem.name3 {g n : Nat} {t : TypeId} {cs : Array Value} {e1 e2 : Ent} (_ : Mem G w0 (e1 :: e2 :: ⟨g, t, n, cs⟩ :: L) R w) : ∃ x, x = g := ⟨_, rfl⟩
theorem Mem.name4 {g n : Nat} {t : TypeId} {cs : Array Value} {e1 e2 e3 : Ent} (_ : Mem G w0 (e1 :: e2 :: e3 :: ⟨g, t, n, cs⟩ :: L) R w) : ∃ x, x = g := ⟨_, rfl⟩
theorem Mem.name5 {g n : Nat} {t : TypeId} {cs : Array Value} {e1 e2 e3 e4 : Ent} (_ : Mem G w0 (e1 :: e2 :: e3 :: e4 :: ⟨g, t, n, cs⟩ :: L) R w) : ∃ x, x = g := ⟨_, rfl⟩
theorem Mem.name7 {g n : Nat} {t : TypeId} {cs : Array Value} {e1 e2 e3 e4 e5 e6 : Ent} (_ : Mem G w0 (e1 :: e2 :: e3 :: e4 :: e5 :: e6 :: ⟨g, t, n, cs⟩ :: L) R w) : ∃ x, x = g := ⟨_, rfl⟩
/-- The cells of one block turn. -/
theorem Mem.put {g : Nat} {t : TypeId} {n : Nat} {cs cs' : Array Value} {F : Array Value → List Ent} (h : Mem G w0 L R w) (hu : UpdL g t n cs L F) (ho : Only g w w') (hB : Blk w' g t cs') (hn : cs'.size = n) : Mem G w0 (F cs') R w' := by
  obtain ⟨A, B, rfl, hF⟩ := hu
  rw [hF]
  have hin : (⟨g, t, n, cs⟩ : Ent) ∈ A ++ ⟨g, t, n, cs⟩ :: B := by simp
  have hne := h.ne
  rw [List.pairwise_append] at hne
  obtain ⟨n1, n2, n3⟩ := hne
  rw [List.pairwise_cons] at n2
  have hold : ∀ b, (b ∈ A ∨ b ∈ B) → b ∈ A ++ ⟨g, t, n, cs⟩ :: B ∧ b.g ≠ g := by
    intro b hb
    rcases hb with hb | hb
    · exact ⟨by simp [hb], n3 b hb ⟨g, t, n, cs⟩ (by simp)⟩
    · exact ⟨by simp [hb], fun he => n2.1 b hb he.symm⟩
  refine ⟨h.old.then ho.os ho.tape ho.output ho.size (fun k hk hG => ho.block k (Nat.lt_of_lt_of_le hk h.le) ?_), ?_, ?_, ?_, ?_, h.rne⟩
  · rintro ⟨⟩
    rcases (h.at_ _ hin).1 with h1 | h1
    · simp only at h1
      omega
    · exact hG h1
  · intro b hb
    rcases List.mem_append.1 hb with hb | hb
    · obtain ⟨h1, h2⟩ := hold b (.inl hb)
      exact ⟨(h.at_ b h1).1, (h.blk h1).only ho h2, (h.at_ b h1).2.2⟩
    · rcases List.mem_cons.1 hb with rfl | hb
      · exact ⟨(h.at_ _ hin).1, hB, hn⟩
      · obtain ⟨h1, h2⟩ := hold b (.inr hb)
        exact ⟨(h.at_ b h1).1, (h.blk h1).only ho h2, (h.at_ b h1).2.2⟩
  · rw [List.pairwise_append]
    refine ⟨n1, List.pairwise_cons.2 ⟨n2.1, n2.2⟩, fun b hb c hc => ?_⟩
    rcases List.mem_cons.1 hc with rfl | hc
    · exact n3 b hb ⟨g, t, n, cs⟩ (by simp)
    · exact n3 b hb c (by simp [hc])
  · intro r hr
    exact World.ownsRow.kept (h.rows r hr) ho (.inr (h.apart r hr _ hin))
  · intro r hr b hb
    rcases List.mem_append.1 hb with hb | hb
    · exact h.apart r hr b (hold b (.inl hb)).1
    · rcases List.mem_cons.1 hb with rfl | hb
      · exact h.apart r hr ⟨g, t, n, cs⟩ hin
      · exact h.apart r hr b (hold b (.inr hb)).1
theorem Mem.setCell {g : Nat} {t : TypeId} {n : Nat} {cs : Array Value} {F : Array Value → List Ent} (h : Mem G w0 L R w) (hu : UpdL g t n cs L F) (i : Nat) (v : Value) : Mem G w0 (F (cs.setIfInBounds i v)) R (w.setCell ⟨g, i, none⟩ v) := by
  have hin : (⟨g, t, n, cs⟩ : Ent) ∈ L := by obtain ⟨A, B, rfl, _⟩ := hu; simp
  exact h.put hu ((Only.refl g w).setCell i v) ((h.blk hin).set i v) (by have := h.size hin; simpa using this)
theorem Mem.apart2 {g g' n n' : Nat} {t t' : TypeId} {cs cs' : Array Value} {L1 L2 L3 : List Ent} (h : Mem G w0 (L1 ++ ⟨g, t, n, cs⟩ :: (L2 ++ ⟨g', t', n', cs'⟩ :: L3)) R w) : g ≠ g' := by
  have := h.ne
  rw [List.pairwise_append] at this
  have h2 := this.2.1
  rw [List.pairwise_cons] at h2
  exact h2.1 ⟨g', t', n', cs'⟩ (by simp)
/-- A row grows or turns. -/
theorem Mem.rowPut {r r' : OwnR} {F : OwnR → List OwnR} (h : Mem G w0 L R w) (hu : UpdR r R F) (hg : w.grownBy w' r.v.ownBlock) (hr : w'.ownsRow w0.heap.size r'.e r'.size r'.v r'.n r'.xs)
    (ho : r'.v.ownBlock = r.v.ownBlock ∨ r'.v.ownBlock = some w.heap.size) : Mem G w0 L (F r') w' := by
  obtain ⟨A, B, rfl, hF⟩ := hu
  rw [hF]
  have hin : r ∈ A ++ r :: B := by simp
  have hbase : ∀ k, r.v.ownBlock = some k → w0.heap.size ≤ k ∧ k < w.heap.size := World.ownsRow.lt (h.rows r hin)
  have hne := h.rne
  rw [List.pairwise_append] at hne
  obtain ⟨n1, n2, n3⟩ := hne
  rw [List.pairwise_cons] at n2
  have hold : ∀ s, (s ∈ A ∨ s ∈ B) → s ∈ A ++ r :: B ∧ (s.v.ownBlock = none ∨ s.v.ownBlock ≠ r.v.ownBlock) := by
    intro s hs
    rcases hs with hs | hs
    · exact ⟨by simp [hs], n3 s hs _ (by simp)⟩
    · refine ⟨by simp [hs], ?_⟩
      rcases n2.1 s hs with h1 | h1
      · cases hv : s.v.ownBlock with
        | none => exact .inl rfl
        | some j => exact .inr (by rw [h1]; simp)
      · exact .inr fun he => h1 he.symm
  have hnew : ∀ s, (s ∈ A ∨ s ∈ B) → s.v.ownBlock = none ∨ s.v.ownBlock ≠ r'.v.ownBlock := by
    intro s hs
    obtain ⟨h1, h2⟩ := hold s hs
    rcases h2 with h2 | h2
    · exact .inl h2
    · refine .inr fun he => ?_
      rcases ho with h3 | h3
      · exact h2 (he.trans h3)
      · have := (World.ownsRow.lt (h.rows s h1) _ (he.trans h3)).2
        omega
  refine ⟨h.old.then hg.os hg.tape hg.output hg.size (fun k hk _ => hg.block k (Nat.lt_of_lt_of_le hk h.le) ?_), ?_, h.ne, ?_, ?_, ?_⟩
  · intro he
    have := (hbase k he.symm).1
    omega
  · intro b hb
    refine ⟨(h.at_ b hb).1, ?_, (h.at_ b hb).2.2⟩
    exact (hg.block _ (h.lt hb) (fun he => h.apart r hin b hb he.symm)).trans (h.blk hb)
  · intro s hs
    rcases List.mem_append.1 hs with hs | hs
    · obtain ⟨h1, h2⟩ := hold s (.inl hs)
      exact World.ownsRow.kept (h.rows s h1) hg h2
    · rcases List.mem_cons.1 hs with rfl | hs
      · exact hr
      · obtain ⟨h1, h2⟩ := hold s (.inr hs)
        exact World.ownsRow.kept (h.rows s h1) hg h2
  · intro s hs b hb
    rcases List.mem_append.1 hs with hs | hs
    · exact h.apart s (hold s (.inl hs)).1 b hb
    · rcases List.mem_cons.1 hs with rfl | hs
      · rcases ho with h3 | h3
        · rw [h3]; exact h.apart r hin b hb
        · rw [h3]
          have := h.lt hb
          simp only [ne_eq, Option.some.injEq]
          omega
      · exact h.apart s (hold s (.inr hs)).1 b hb
  · rw [List.pairwise_append]
    refine ⟨n1, List.pairwise_cons.2 ⟨fun s hs => ?_, n2.2⟩, fun s hs c hc => ?_⟩
    · cases hv : r'.v.ownBlock with
      | none => exact .inl rfl
      | some j =>
        refine .inr fun he => ?_
        rcases hnew s (.inr hs) with h1 | h1
        · rw [h1] at he; cases he
        · exact h1 (by rw [← he, hv])
    · rcases List.mem_cons.1 hc with rfl | hc
      · exact hnew s (.inl hs)
      · exact n3 s hs c (by simp [hc])
end
/-! ### Operations -/
/-! Which operation comes next (for the walk's arms). -/
section
variable {P : Program} {w : World} {ops : Array Oper} {rest : List Oper} {a : Act} {Q : Exit → Act → World → Prop} {dst : Option Tmp} {type : TypeId} {pos : String} {after : Array Edge}
theorem at_load {t : TypeId} {x : Operand} (h : wpList P ops Q (⟨dst, .load t x, type, pos, after, none⟩ :: rest) a w) : wpList P ops Q (⟨dst, .load t x, type, pos, after, none⟩ :: rest) a w := h
theorem at_store {t : TypeId} {x y : Operand} (h : wpList P ops Q (⟨dst, .store t x y, type, pos, after, none⟩ :: rest) a w) : wpList P ops Q (⟨dst, .store t x y, type, pos, after, none⟩ :: rest) a w := h
theorem at_alloc {t : TypeId} (h : wpList P ops Q (⟨dst, .alloc t, type, pos, after, none⟩ :: rest) a w) : wpList P ops Q (⟨dst, .alloc t, type, pos, after, none⟩ :: rest) a w := h
theorem at_box {t : TypeId} {x : Operand} (h : wpList P ops Q (⟨dst, .box t x, type, pos, after, none⟩ :: rest) a w) : wpList P ops Q (⟨dst, .box t x, type, pos, after, none⟩ :: rest) a w := h
theorem at_build {t : TypeId} {ps : Array (Nat × Operand)} (h : wpList P ops Q (⟨dst, .build t ps, type, pos, after, none⟩ :: rest) a w) : wpList P ops Q (⟨dst, .build t ps, type, pos, after, none⟩ :: rest) a w := h
theorem at_append {xs : Array Operand} {ts : Array TypeId} (h : wpList P ops Q (⟨dst, .call { callee := .builtin .append, args := xs, argTypes := ts }, type, pos, after, none⟩ :: rest) a w) : wpList P ops Q (⟨dst, .call { callee := .builtin .append, args := xs, argTypes := ts }, type, pos, after, none⟩ :: rest) a w := h
end
theorem at_load_g {P : Program} {w : World} {ops : Array Oper} {rest : List Oper} {a : Act} {Q : Exit → Act → World → Prop} {dst : Option Tmp} {type : TypeId} {pos : String} {after : Array Edge} {t : TypeId} {x : Operand} {g : Nat × Bool}
    (hw : Region.wanted ⟨dst, .load t x, type, pos, after, some g⟩ (yielded ops a.tmps) = true) (h : wpList P ops Q (⟨dst, .load t x, type, pos, after, none⟩ :: rest) a w) : wpList P ops Q (⟨dst, .load t x, type, pos, after, some g⟩ :: rest) a w := by
  unfold wpList at h ⊢
  rw [if_pos hw]
  rw [if_pos (by simp [Region.wanted])] at h
  exact h
theorem at_calls {P : Program} {f : FuncId} {args : Array Value} {w : World} {X : Ending → World → Prop} (h : Calls P f args w X) : Calls P f args w X := h
/-- The number with an index; a word of its own, so that the walk leaves it as it is. -/
def nth (l : List Nat) (i : Nat) : Nat := l.getD i 0
/-- A type of several cells; a type of one cell. -/
structure RowTy (P : Program) (ty : TypeId) (n : Nat) : Prop where
  ex : ∃ d, P.underlying ty = some d ∧ isRow d = true ∧ (P.info? ty).map (·.size) = some n
structure OneTy (P : Program) (ty : TypeId) : Prop where
  ex : ∃ d, P.underlying ty = some d ∧ isRow d = false ∧ (P.info? ty).map (·.size) = some 1
section
variable {P : Program} {w w0 : World} {G : List Nat} {L : List Ent} {R : List OwnR} {ops : Array Oper} {rest : List Oper} {o : Oper} {a : Act} {Q : Exit → Act → World → Prop}
theorem run_load_one {ty : TypeId} (hty : OneTy P ty) {g i : Nat} {t : TypeId} {cs : Array Value} {v : Value} (hB : Blk w g t cs) (hv : cs[i]? = some v) : (loadVar ty ⟨g, i, none⟩).run P w = .ok v w := by
  obtain ⟨d, hu, hd, _⟩ := hty.ex
  have hc := hB.cell i
  rw [hv] at hc
  simp [loadVar, Sem.run_bind, run_isAgg_no hu hd, hc]
theorem run_store_one {ty : TypeId} (hty : OneTy P ty) {g i : Nat} {t : TypeId} {cs : Array Value} {v : Value} (hB : Blk w g t cs) (hi : i < cs.size) (h1 : v.oneCell' = true) :
    (storeVar ty ⟨g, i, none⟩ v).run P w = .ok () (w.setRow g (cs.setIfInBounds i v)) := by
  obtain ⟨d, hu, hd, hs⟩ := hty.ex
  have hc : v.cells = #[v] := by cases v <;> simp_all [Value.cells, Value.oneCell']
  have := run_storeCells_at P g i t [v] 0 cs w hB (by simp; omega) (by simpa using h1)
  simp only [Nat.add_zero] at this
  simp only [storeVar, hc, Sem.run_bind, run_sizeOf hs, Result.andThen_ok, List.size_toArray, List.length_cons, List.length_nil, ne_eq, not_true_eq_false, if_false, this]
  congr 2
  apply Array.ext'
  simp [List.set_eq_take_append_cons_drop, hi]
theorem wpList_mem_load (hM : Mem G w0 L R w) (hgd : o.guard = none) (ty : TypeId) (x : Operand) (ho : o.op = .load ty x) (g : Nat) (hx : a.eval x = .pointer (some ⟨g, 0, none⟩))
    (t : TypeId) (n : Nat) (cs : Array Value) (hL : ⟨g, t, n, cs⟩ ∈ L) (hty : RowTy P ty n) (h : wpList P ops Q rest (a.put o.dst (.agg cs)) w) : wpList P ops Q (o :: rest) a w := by
  obtain ⟨d, hu, hd, hi⟩ := hty.ex
  exact wpList_load_blk hgd ty x ho g hx t cs n d (hM.blk hL) hu hd hi (hM.size hL) h
theorem wpList_mem_part (hM : Mem G w0 L R w) (hgd : o.guard = none) (ty : TypeId) (x : Operand) (ho : o.op = .load ty x) (g off : Nat) (hx : a.eval x = .pointer (some ⟨g, off, none⟩))
    (t : TypeId) (n : Nat) (cs : Array Value) (hL : ⟨g, t, n, cs⟩ ∈ L) (m : Nat) (hty : RowTy P ty m) (hm : off + m ≤ n) (X : Array Value) (hX : cs.extract off (off + m) = X)
    (h : wpList P ops Q rest (a.put o.dst (.agg X)) w) : wpList P ops Q (o :: rest) a w := by
  obtain ⟨d, hu, hd, hi⟩ := hty.ex
  exact wpList_load_part hgd ty x ho g off hx t cs m d (hM.blk hL) hu hd hi (by have := hM.size hL; omega) X hX h
theorem wpList_mem_cell (hM : Mem G w0 L R w) (hgd : o.guard = none) (ty : TypeId) (x : Operand) (ho : o.op = .load ty x) (g i : Nat) (hx : a.eval x = .pointer (some ⟨g, i, none⟩))
    (t : TypeId) (n : Nat) (cs : Array Value) (hL : ⟨g, t, n, cs⟩ ∈ L) (hty : OneTy P ty) (v : Value) (hv : cs[i]? = some v)
    (h : wpList P ops Q rest (a.put o.dst v) w) : wpList P ops Q (o :: rest) a w :=
  wpList_plain hgd fun K hK => by
    unfold Oper.wp execOp
    simp only [ho, hx, Instr.loadAt, Instr.sureAddr, Sem.run_bind, Sem.run_pure, Result.andThen_ok, run_load_one hty (hM.blk hL) hv]
    exact hK _ _ h
/-- A number out of a block of numbers. -/
theorem wpList_mem_num (hM : Mem G w0 L R w) (hgd : o.guard = none) (ty : TypeId) (x : Operand) (ho : o.op = .load ty x) (g i : Nat) (hx : a.eval x = .pointer (some ⟨g, i, none⟩))
    (t : TypeId) (n : Nat) (k : IntKind) (l : List Nat) (hL : ⟨g, t, n, cellsOf k l⟩ ∈ L) (hty : OneTy P ty) (hi : i < n)
    (h : wpList P ops Q rest (a.put o.dst (.int k (nth l i : Nat))) w) : wpList P ops Q (o :: rest) a w :=
  wpList_mem_cell hM hgd ty x ho g i hx t n _ hL hty _ (cellsOf_get k l i (by have := hM.size hL; simp at this; omega)) h
theorem wpList_mem_store (hM : Mem G w0 L R w) (hgd : o.guard = none) (ty : TypeId) (x y : Operand) (ho : o.op = .store ty x y) (g : Nat) (hx : a.eval x = .pointer (some ⟨g, 0, none⟩))
    (vs : Array Value) (hy : a.eval y = .agg vs) (t : TypeId) (n : Nat) (cs : Array Value) (F : Array Value → List Ent) (hL : UpdL g t n cs L F) (hty : RowTy P ty n) (hv : vs.size = n) (h1 : ∀ v ∈ vs.toList, v.oneCell' = true)
    (hdst : o.dst = none) (h : ∀ w', Mem G w0 (F vs) R w' → wpList P ops Q rest a w') : wpList P ops Q (o :: rest) a w := by
  obtain ⟨d, hu, hd, hi⟩ := hty.ex
  have hin : (⟨g, t, n, cs⟩ : Ent) ∈ L := by obtain ⟨A, B, rfl, _⟩ := hL; simp
  have hb := hM.blk hin
  exact wpList_store_blk hgd ty x y ho g hx vs hy t cs n hb hi hv (hM.size hin) h1 hdst fun w' hw' => h w' (hM.put hL (hw' ▸ (Only.refl g w).setRow vs) (hw' ▸ hb.row vs) hv)
theorem wpList_mem_store_part (hM : Mem G w0 L R w) (hgd : o.guard = none) (ty : TypeId) (x y : Operand) (ho : o.op = .store ty x y) (g off : Nat) (hx : a.eval x = .pointer (some ⟨g, off, none⟩))
    (vs : Array Value) (hy : a.eval y = .agg vs) (t : TypeId) (n : Nat) (cs : Array Value) (F : Array Value → List Ent) (hL : UpdL g t n cs L F) (m : Nat) (hty : RowTy P ty m) (hv : vs.size = m) (hm : off + m ≤ n) (h1 : ∀ v ∈ vs.toList, v.oneCell' = true)
    (hdst : o.dst = none) (X : Array Value) (hX : (splice cs.toList off vs.toList).toArray = X) (h : ∀ w', Mem G w0 (F X) R w' → wpList P ops Q rest a w') : wpList P ops Q (o :: rest) a w := by
  obtain ⟨d, hu, hd, hi⟩ := hty.ex
  have hin : (⟨g, t, n, cs⟩ : Ent) ∈ L := by obtain ⟨A, B, rfl, _⟩ := hL; simp
  have hb := hM.blk hin
  have hs := hM.size hin
  have hXs : X.size = n := by rw [← hX]; simp [splice]; omega
  exact wpList_store_part hgd ty x y ho g off hx vs hy t cs m hb hi hv (by omega) h1 hdst fun w' hw' => h w' (by rw [hX] at hw'; exact hM.put hL (hw' ▸ (Only.refl g w).setRow X) (hw' ▸ hb.row X) hXs)
theorem wpList_mem_set (hM : Mem G w0 L R w) (hgd : o.guard = none) (ty : TypeId) (x y : Operand) (ho : o.op = .store ty x y) (g i : Nat) (hx : a.eval x = .pointer (some ⟨g, i, none⟩))
    (v : Value) (hy : a.eval y = v) (t : TypeId) (n : Nat) (cs : Array Value) (F : Array Value → List Ent) (hL : UpdL g t n cs L F) (hty : OneTy P ty) (hi : i < n) (h1 : v.oneCell' = true)
    (hdst : o.dst = none) (h : ∀ w', Mem G w0 (F (cs.setIfInBounds i v)) R w' → wpList P ops Q rest a w') : wpList P ops Q (o :: rest) a w := by
  have hin : (⟨g, t, n, cs⟩ : Ent) ∈ L := by obtain ⟨A, B, rfl, _⟩ := hL; simp
  have hb := hM.blk hin
  have hs := hM.size hin
  have hic : i < cs.size := by omega
  have hrun := run_store_one (w := w) (v := v) hty hb hic h1
  refine wpList_plain hgd fun K hK => ?_
  unfold Oper.wp execOp
  simp only [ho, hx, hy, Instr.storeAt, Instr.sureAddr, Sem.run_bind, Sem.run_pure, Result.andThen_ok, hrun]
  show K (a.put o.dst undef) _
  rw [hdst]
  exact hK _ _ (h _ (hM.put hL ((Only.refl g w).setRow _) (hb.row _) (by simpa using hs)))
/-- A number into a block of numbers. -/
theorem wpList_mem_setnum (hM : Mem G w0 L R w) (hgd : o.guard = none) (ty : TypeId) (x y : Operand) (ho : o.op = .store ty x y) (g i : Nat) (hx : a.eval x = .pointer (some ⟨g, i, none⟩))
    (k : IntKind) (z : Int) (hy : a.eval y = .int k z) (t : TypeId) (n : Nat) (l : List Nat) (F : Array Value → List Ent) (hL : UpdL g t n (cellsOf k l) L F) (hty : OneTy P ty) (hi : i < n) (v : Nat) (hv : z = (v : Int))
    (hdst : o.dst = none) (h : ∀ w', Mem G w0 (F (cellsOf k (l.set i v))) R w' → wpList P ops Q rest a w') : wpList P ops Q (o :: rest) a w := by
  subst hv
  exact wpList_mem_set hM hgd ty x y ho g i hx _ hy t n _ F hL hty hi rfl hdst fun w' hw' => h w' (by rw [cellsOf_set] at hw'; exact hw')
theorem wpList_mem_alloc (hM : Mem G w0 L R w) (hgd : o.guard = none) (ty : TypeId) (ho : o.op = .alloc ty) (z : Value) (hz : (P.info? ty).map (·.zero) = some (some z)) (n : Nat) (hn : z.cells.size = n)
    (h : ∀ g w', Mem G w0 (⟨g, ty, n, z.cells⟩ :: L) R w' → wpList P ops Q rest (a.put o.dst (.pointer (some ⟨g, 0, none⟩))) w') : wpList P ops Q (o :: rest) a w :=
  wpList_alloc_zero hgd ty ho z hz (h _ _ (hM.alloc _ _ hn))
theorem wpList_mem_box (hM : Mem G w0 L R w) (hgd : o.guard = none) (ty : TypeId) (x : Operand) (ho : o.op = .box ty x) (cs : Array Value) (hx : a.eval x = .agg cs) (n : Nat) (_ : RowTy P ty n) (hn : cs.size = n)
    (h : ∀ g w', Mem G w0 (⟨g, ty, n, cs⟩ :: L) R w' → wpList P ops Q rest (a.put o.dst (.pointer (some ⟨g, 0, none⟩))) w') : wpList P ops Q (o :: rest) a w :=
  wpList_plain hgd fun K hK => by
    unfold Oper.wp execOp
    simp only [ho, hx, Instr.box, newVar, newRow, newObj, Sem.run_bind, Sem.run_pure, Value.cells]
    exact hK _ _ (h _ _ (hM.alloc cs ty hn))
/-- The zero value of a type, as cells. -/
structure ZeroTy (P : Program) (ty : TypeId) (n : Nat) (cs : Array Value) : Prop where
  ex : ∃ z, (P.info? ty).map (·.zero) = some (some z) ∧ z.cells = cs ∧ cs.size = n
theorem wpList_mem_zero (hM : Mem G w0 L R w) (hgd : o.guard = none) (ty : TypeId) (ho : o.op = .alloc ty) (n : Nat) (cs : Array Value) (hz : ZeroTy P ty n cs)
    (h : ∀ g w', Mem G w0 (⟨g, ty, n, cs⟩ :: L) R w' → wpList P ops Q rest (a.put o.dst (.pointer (some ⟨g, 0, none⟩))) w') : wpList P ops Q (o :: rest) a w := by
  obtain ⟨z, hzz, rfl, hn⟩ := hz.ex
  exact wpList_mem_alloc hM hgd ty ho z hzz n hn h
structure ArrTy (P : Program) (ty : TypeId) : Prop where
  ex : ∃ m e k, P.underlying ty = some (.array m e) ∧ (P.info? e).map (·.size) = some k
/-- The zero value of an array type, written 'T{}'. -/
theorem wpList_build_zero (hgd : o.guard = none) (ty : TypeId) (ho : o.op = .build ty #[]) (n : Nat) (cs : Array Value) (hz : ZeroTy P ty n cs) (hA : ArrTy P ty)
    (h : wpList P ops Q rest (a.put o.dst (.agg cs)) w) : wpList P ops Q (o :: rest) a w := by
  obtain ⟨z, hzz, rfl, _⟩ := hz.ex
  obtain ⟨m, e, k, hu, he⟩ := hA.ex
  refine wpList_plain hgd fun K hK => ?_
  cases hq : P.info? ty with
  | none => simp [hq] at hzz
  | some i =>
    have hz' : i.zero = some z := by simpa [hq] using hzz
    have hzr : (zeroValue ty).run P w = .ok z w := by simp [zeroValue, typeInfo, hq, hz']
    unfold Oper.wp execOp
    simp only [ho, Instr.build, Sem.run_bind, hzr, run_underlying hu, Result.andThen_ok, run_sizeOf he, Array.map_empty, Instr.fill, Sem.run_pure]
    exact hK _ _ h
/-- A block that was laid anew gets into the list. -/
theorem wpList_mem_new (k : IntKind) (xs : List Nat) {cs : Array Value} {t : TypeId} (hM : Mem G w0 L R w) (hcs : cs = cellsOf k xs) {l : List Oper} (h : ∀ w', Mem G w0 (⟨w.heap.size, t, xs.length, cellsOf k xs⟩ :: L) R w' → wpList P ops Q l a w') : wpList P ops Q l a (w.alloc (.cells cs t)) :=
  h _ (by rw [hcs]; exact hM.alloc _ _ (by simp))
theorem results_mem_cell (hM : Mem G w0 L R w) {fn : Func} {p : Tmp} {ty : TypeId} (h : fn.results = #[.cell p ty]) {tmps : Array Value} {g : Nat} (hp : tmps.getD p undef = .pointer (some ⟨g, 0, none⟩)) {t : TypeId} {n : Nat} {cs : Array Value}
    (hL : ⟨g, t, n, cs⟩ ∈ L) (hty : RowTy P ty n) : (results fn tmps).run P w = .ok (.agg cs) w := by
  obtain ⟨d, hu, hd, hi⟩ := hty.ex
  exact results_cell_row h tmps w g t cs (0, 0) d hp (hM.blk hL) hu (by cases d <;> simp_all [isRow]) (by rw [hi, hM.size hL])
theorem results_mem_cell_tmp (hM : Mem G w0 L R w) {fn : Func} {p u : Tmp} {ty : TypeId} (h : fn.results = #[.cell p ty, .tmp u]) {tmps : Array Value} {g : Nat} (hp : tmps.getD p undef = .pointer (some ⟨g, 0, none⟩)) {t : TypeId} {n : Nat} {cs : Array Value}
    (hL : ⟨g, t, n, cs⟩ ∈ L) (hty : RowTy P ty n) {e : Value} (he : tmps.getD u undef = e) : (results fn tmps).run P w = .ok (.tuple #[.agg cs, e]) w := by
  obtain ⟨d, hu, hd, hi⟩ := hty.ex
  rw [results_cell_tmp h, hp, he]
  have hl := run_loadVar_row (P := P) w g t ty cs (0, 0) d (hM.blk hL) hu (by cases d <;> simp_all [isRow]) (by rw [hi, hM.size hL])
  simp [asAddr, hl]
/-! ### In a region whose order is drawn -/
section
variable {C : World → Prop}
theorem quietAt_mem_load (hM : Mem G w0 L R w) (ty : TypeId) (x : Operand) (ho : o.op = .load ty x) (g : Nat) (hx : a.eval x = .pointer (some ⟨g, 0, none⟩)) (t : TypeId) (n : Nat) (cs : Array Value) (hL : ⟨g, t, n, cs⟩ ∈ L) (hty : RowTy P ty n) :
    o.quietAt P a C w (.agg cs) := by
  obtain ⟨d, hu, hd, hi⟩ := hty.ex
  have hs := hM.size hL
  exact quietAt_load ty x ho g 0 hx t cs n d (hM.blk hL) hu hd hi (by omega) cs (by simp [← hs])
theorem quietAt_mem_part (hM : Mem G w0 L R w) (ty : TypeId) (x : Operand) (ho : o.op = .load ty x) (g off : Nat) (hx : a.eval x = .pointer (some ⟨g, off, none⟩)) (t : TypeId) (n : Nat) (cs : Array Value) (hL : ⟨g, t, n, cs⟩ ∈ L) (m : Nat) (hty : RowTy P ty m)
    (hm : off + m ≤ n) (X : Array Value) (hX : cs.extract off (off + m) = X) : o.quietAt P a C w (.agg X) := by
  obtain ⟨d, hu, hd, hi⟩ := hty.ex
  have hs := hM.size hL
  exact quietAt_load ty x ho g off hx t cs m d (hM.blk hL) hu hd hi (by omega) X hX
theorem quietAt_mem_cell (hM : Mem G w0 L R w) (ty : TypeId) (x : Operand) (ho : o.op = .load ty x) (g i : Nat) (hx : a.eval x = .pointer (some ⟨g, i, none⟩)) (t : TypeId) (n : Nat) (cs : Array Value) (hL : ⟨g, t, n, cs⟩ ∈ L) (hty : OneTy P ty) (v : Value) (hv : cs[i]? = some v) :
    o.quietAt P a C w v := by
  unfold Oper.quietAt execOp
  simp only [ho, hx, Instr.loadAt, Instr.sureAddr, Sem.run_bind, Sem.run_pure, Result.andThen_ok, run_load_one hty (hM.blk hL) hv]
  exact ⟨rfl, rfl⟩
theorem quietAt_mem_num (hM : Mem G w0 L R w) (ty : TypeId) (x : Operand) (ho : o.op = .load ty x) (g i : Nat) (hx : a.eval x = .pointer (some ⟨g, i, none⟩)) (t : TypeId) (n : Nat) (k : IntKind) (l : List Nat) (hL : ⟨g, t, n, cellsOf k l⟩ ∈ L) (hty : OneTy P ty) (hi : i < n) :
    o.quietAt P a C w (.int k (nth l i : Nat)) :=
  quietAt_mem_cell hM ty x ho g i hx t n _ hL hty _ (cellsOf_get k l i (by have := hM.size hL; simp at this; omega))
theorem quiet_mem_call {f : FuncId} {args : Array Value} {w' : World} {v : Value} (hM : Mem G w0 L R w') (h : Calls P f args w' fun e w'' => e = .returned v ∧ Below w'.heap.size w' w'') :
    Calls P f args w' fun e w'' => e = .returned v ∧ Mem G w0 L R w'' := h.mono fun _ _ ⟨he, hb⟩ => ⟨he, hM.step hb⟩
end
end
end Go.Bul
namespace Go.Proofs.YtpigmibaeoceaaaDoor
open Go Go.RowKit Go.Bul
/-- A row of bytes. -/
def brow (v : Value) (xs : List Nat) : OwnR := ⟨5, 1, v, xs.length, vals .u8 xs⟩
section
variable {G : List Nat} {w0 w : World} {L : List Ent} {R : List OwnR} {ops : Array Oper} {rest : List Oper} {o : Oper} {a : Act} {Q : Exit → Act → World → Prop}
theorem mem_of_updR {r : OwnR} {R : List OwnR} {F : OwnR → List OwnR} (h : UpdR r R F) : r ∈ R := by obtain ⟨A, B, rfl, _⟩ := h; simp
theorem brow_own {v : Value} {xs : List Nat} (hM : Mem G w0 L R w) (h : brow v xs ∈ R) : OwnB w w0.heap.size v xs := hM.rows _ h
theorem brow_rd {A : Option Addr} {n c : Nat} {xs : List Nat} (hM : Mem G w0 L R w) (h : brow (.slice A n c) xs ∈ R) (hb : Bytes xs) : Rd w (fun _ => True) A n xs ∧ n ≤ c ∧ n = xs.length := by
  have h0 := brow_own hM h
  obtain ⟨A', c', he, _⟩ := own_form h0
  have hn : n = xs.length := by injection he
  obtain ⟨h1, h2⟩ := h0.rd hn hb
  exact ⟨h1.imp fun _ _ _ => trivial, h2, hn⟩
/-- A block of bytes, or a part of it, read as a slice. -/
theorem ent_rd {g n : Nat} {t : TypeId} {xs : List Nat} (hM : Mem G w0 L R w) (h : ⟨g, t, n, cellsOf .u8 xs⟩ ∈ L) (hb : Bytes xs) (off m : Nat) (hm : off + m ≤ n) : Rd w (fun _ => True) (some ⟨g, off, none⟩) m ((xs.drop off).take m) := by
  have hs := hM.size h
  have hB := hM.blk h
  simp only [cellsOf_size] at hs
  refine ⟨by rw [List.length_take, List.length_drop]; omega, (hb.drop _).take _, fun _ => ⟨_, rfl, trivial, hB.lt, fun j hj => ?_⟩⟩
  rw [addr_at]
  have h1 := hB.num (k := .u8) (l := xs) (i := off + j) (by omega)
  simp only at h1
  rw [h1]
  simp [List.getD, hj]
theorem ent_rd_whole {g n : Nat} {t : TypeId} {xs : List Nat} (hM : Mem G w0 L R w) (h : ⟨g, t, n, cellsOf .u8 xs⟩ ∈ L) (hb : Bytes xs) : Rd w (fun _ => True) (some ⟨g, 0, none⟩) n xs := by
  have hs := hM.size h
  simp only [cellsOf_size] at hs
  have := ent_rd hM h hb 0 n (by omega)
  rwa [List.drop_zero, List.take_of_length_le (by omega)] at this
/-- append bytes onto a row of bytes. -/
theorem wpList_mem_bytes (hM : Mem G w0 L R w) (hgd : o.guard = none) (s x : Operand) (t : TypeId) (ho : o.op = .call { callee := .builtin .append, args := #[s, x], argTypes := #[t, t] }) (ht : Tryd.prog.underlying t = some (.slice 5))
    (v : Value) (hs : a.eval s = v) (xs : List Nat) (F : OwnR → List OwnR) (hR : UpdR (brow v xs) R F) (A : Option Addr) (m c : Nat) (hx : a.eval x = .slice A m c) (ok : Nat → Prop) (ys : List Nat) (hr : Rd w ok A m ys) (h63 : xs.length + ys.length ≤ 140737488355328)
    (h : ∀ A' N c' w', Hid (N = (xs ++ ys).length) → Mem G w0 L (F (brow (.slice A' N c') (xs ++ ys))) w' → wpList Tryd.prog ops Q rest (a.put o.dst (.slice A' N c')) w') : wpList Tryd.prog ops Q (o :: rest) a w := by
  refine wpList_append_bytes hgd s x t ho ht w0.heap.size v xs hs (brow_own hM (mem_of_updR hR)) ok A m c ys hx hr (xs ++ ys) rfl _ rfl (by rw [List.length_append]; exact h63) hM.le ?_
  intro A' c' w' h1 h2 h3 h4
  exact h A' _ c' w' (Lib.hid rfl) (hM.rowPut hR h3 h1 h4)
end
end Go.Proofs.YtpigmibaeoceaaaDoor
