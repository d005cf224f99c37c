/- A heap predicate: blocks that are known whole and rows of the call's own, whose addresses stay names; the operations on it. The types of one-time signatures: sizes and zero values. Plain arithmetic of one-time signatures: digits, checksums, chains over the first half of SHA-256. No condition, no program. Contracts of onetime's isLeaf, isChain, input, hash. Conditions: a leaf from 0 to 65535; fewer than 2^40 bytes. -/
import Derived.Test.YtbbdnlcjjcmllaaDoorVe
import Derived.Test.YtbbdnlcjjcmllaaDoorVa
import Derived.Test.YtbbdnlcjjcmllaaDoorVf
import Derived.Test.YtbbdnlcjjcmllaaDoorVp
namespace Go.Bul.Hp
open Go Go.RowKit
/-- So many zeros. -/
def zeros (n : Nat) : List Nat := List.replicate n 0
@[simp] theorem zeros_length (n : Nat) : (zeros n).length = n := List.length_replicate
theorem zeros_size (k : IntKind) (n : Nat) : (cellsOf k (zeros n)).size = n := by rw [cellsOf_size, zeros_length]
/-- A block: its number, type, size, cells. -/
structure Ent where
  g : Nat
  t : TypeId
  n : Nat
  cs : Array Value
/-- A row of the call's own: its element's type and size, the slice, its length, its cells. -/
structure OwnR where
  e : TypeId
  size : Nat
  v : Value
  n : Nat
  xs : List Value
/-- All that lay before is as it was, but for the blocks of G. -/
structure KeptBut (G : List Nat) (w w' : World) : Prop where
  os : w'.os = w.os
  tape : w'.tape = w.tape
  output : w'.output = w.output
  size : w.heap.size ≤ w'.heap.size
  block : ∀ k, k < w.heap.size → k ∉ G → w'.heap[k]? = w.heap[k]?
theorem KeptBut.refl (G : List Nat) (w : World) : KeptBut G w w := ⟨rfl, rfl, rfl, Nat.le_refl _, fun _ _ _ => rfl⟩
theorem KeptBut.trans {G : List Nat} {a b c : World} (h : KeptBut G a b) (k : KeptBut G b c) : KeptBut G a c :=
  ⟨k.os.trans h.os, k.tape.trans h.tape, k.output.trans h.output, Nat.le_trans h.size k.size, fun i hi hn => (k.block i (Nat.lt_of_lt_of_le hi h.size) hn).trans (h.block i hi hn)⟩
theorem KeptBut.of_below {G : List Nat} {w w' : World} (h : Below w.heap.size w w') : KeptBut G w w' := ⟨h.os, h.tape, h.output, h.size, fun i hi _ => h.block i hi⟩
theorem KeptBut.below {w w' : World} (h : KeptBut [] w w') : Below w.heap.size w w' := ⟨h.os, h.tape, h.output, h.size, fun i hi => h.block i hi (by simp)⟩
theorem KeptBut.only {g : Nat} {w w' : World} (h : KeptBut [g] w w') : Only g w w' := ⟨h.os, h.tape, h.output, h.size, fun i hi hne => h.block i hi (by simp; rintro rfl; exact hne rfl)⟩
/-- A step that changes only what is new or in G. -/
theorem KeptBut.then {G : List Nat} {a w w' : World} (h : KeptBut G a w) (hos : w'.os = w.os) (ht : w'.tape = w.tape) (ho : w'.output = w.output) (hs : w.heap.size ≤ w'.heap.size)
    (hb : ∀ k, k < a.heap.size → k ∉ G → w'.heap[k]? = w.heap[k]?) : KeptBut G a w' :=
  ⟨hos.trans h.os, ht.trans h.tape, ho.trans h.output, Nat.le_trans h.size hs, fun i hi hn => (hb i hi hn).trans (h.block i hi hn)⟩
structure Mem (G : List Nat) (w0 : World) (L : List Ent) (R : List OwnR) (w : World) : Prop where
  old : KeptBut G w0 w
  at_ : ∀ b ∈ L, (w0.heap.size ≤ b.g ∨ b.g ∈ G) ∧ Blk w b.g b.t b.cs ∧ b.cs.size = b.n
  ne : L.Pairwise fun b c => b.g ≠ c.g
  rows : ∀ r ∈ R, w.ownsRow w0.heap.size r.e r.size r.v r.n r.xs
  apart : ∀ r ∈ R, ∀ b ∈ L, r.v.ownBlock ≠ some b.g
  rne : R.Pairwise fun r s => r.v.ownBlock = none ∨ r.v.ownBlock ≠ s.v.ownBlock
/-- Where a block stands in a list, and the list with other cells there. -/
def UpdL (g : Nat) (t : TypeId) (n : Nat) (cs : Array Value) (L : List Ent) (F : Array Value → List Ent) : Prop := ∃ A B, L = A ++ ⟨g, t, n, cs⟩ :: B ∧ ∀ cs', F cs' = A ++ ⟨g, t, n, cs'⟩ :: B
theorem UpdL.head (g : Nat) (t : TypeId) (n : Nat) (cs : Array Value) (L : List Ent) : UpdL g t n cs (⟨g, t, n, cs⟩ :: L) (fun cs' => ⟨g, t, n, cs'⟩ :: L) := ⟨[], L, rfl, fun _ => rfl⟩
theorem UpdL.tail {g : Nat} {t : TypeId} {n : Nat} {cs : Array Value} {L : List Ent} {F : Array Value → List Ent} (b : Ent) (h : UpdL g t n cs L F) : UpdL g t n cs (b :: L) (fun cs' => b :: F cs') := by
  obtain ⟨A, B, rfl, h2⟩ := h
  exact ⟨b :: A, B, rfl, fun cs' => by show _ :: _ = _; rw [h2]; rfl⟩
def UpdR (r : OwnR) (R : List OwnR) (F : OwnR → List OwnR) : Prop := ∃ A B, R = A ++ r :: B ∧ ∀ r', F r' = A ++ r' :: B
theorem UpdR.head (r : OwnR) (R : List OwnR) : UpdR r (r :: R) (fun r' => r' :: R) := ⟨[], R, rfl, fun _ => rfl⟩
theorem UpdR.tail {r : OwnR} {R : List OwnR} {F : OwnR → List OwnR} (b : OwnR) (h : UpdR r R F) : UpdR r (b :: R) (fun r' => b :: F r') := by
  obtain ⟨A, B, rfl, h2⟩ := h
  exact ⟨b :: A, B, rfl, fun cs' => by show _ :: _ = _; rw [h2]; rfl⟩
section
variable {G : List Nat} {w0 w w' : World} {L L' : List Ent} {R R' : List OwnR}
theorem Mem.start (G : List Nat) (w : World) : Mem G w [] [] w := ⟨KeptBut.refl _ _, by simp, .nil, by simp, by simp, .nil⟩
theorem Mem.blk (h : Mem G w0 L R w) {b : Ent} (hb : b ∈ L) : Blk w b.g b.t b.cs := (h.at_ b hb).2.1
theorem Mem.lt (h : Mem G w0 L R w) {b : Ent} (hb : b ∈ L) : b.g < w.heap.size := (h.blk hb).lt
theorem Mem.size (h : Mem G w0 L R w) {g : Nat} {t : TypeId} {n : Nat} {cs : Array Value} (hb : ⟨g, t, n, cs⟩ ∈ L) : cs.size = n := (h.at_ _ hb).2.2
theorem Mem.below (h : Mem [] w0 L R w) : Below w0.heap.size w0 w := h.old.below
theorem Mem.le (h : Mem G w0 L R w) : w0.heap.size ≤ w.heap.size := h.old.size
theorem Mem.same (h : Mem G w0 L R w) (hos : w'.os = w.os) (ht : w'.tape = w.tape) (ho : w'.output = w.output) (hs : w.heap.size ≤ w'.heap.size) (hb : ∀ k, k < w.heap.size → w'.heap[k]? = w.heap[k]?) : Mem G w0 L R w' := by
  have hB : Below w.heap.size w w' := ⟨hos, ht, ho, hs, hb⟩
  exact ⟨h.old.then hos ht ho hs (fun k hk _ => hb k (Nat.lt_of_lt_of_le hk h.le)), fun b hL => ⟨(h.at_ b hL).1, (h.blk hL).kept hB, (h.at_ b hL).2.2⟩, h.ne,
    fun r hr => World.ownsRow.kept (h.rows r hr) (row := none) ⟨hos, ht, ho, hs, fun i hi _ => hb i hi⟩ (by cases r.v.ownBlock <;> simp), h.apart, h.rne⟩
theorem Mem.step (h : Mem G w0 L R w) (hb : Below w.heap.size w w') : Mem G w0 L R w' := h.same hb.os hb.tape hb.output hb.size hb.block
theorem Mem.drew (h : Mem G w0 L R w) : Mem G w0 L R w.drew := h.same rfl rfl rfl (Nat.le_refl _) fun _ _ => rfl
theorem Mem.new (h : Mem G w0 L R w) (hb : Below w.heap.size w w') {g : Nat} {t : TypeId} {n : Nat} {cs : Array Value} (hg : w.heap.size ≤ g) (hB : Blk w' g t cs) (hn : cs.size = n) : Mem G w0 (⟨g, t, n, cs⟩ :: L) R w' := by
  have k := h.step hb
  refine ⟨k.old, ?_, ?_, k.rows, ?_, k.rne⟩
  · intro b hb
    rcases List.mem_cons.1 hb with rfl | hb
    · exact ⟨.inl (Nat.le_trans h.le hg), hB, hn⟩
    · exact k.at_ b hb
  · refine List.Pairwise.cons (fun b hb => ?_) k.ne
    have := h.lt hb
    show g ≠ b.g
    omega
  · intro r hr b hb
    rcases List.mem_cons.1 hb with rfl | hb
    · intro he
      have := (World.ownsRow.lt (h.rows r hr) _ he).2
      simp only at this
      omega
    · exact k.apart r hr b hb
theorem Mem.alloc (h : Mem G w0 L R w) (cs : Array Value) (t : TypeId) {n : Nat} (hn : cs.size = n) : Mem G w0 (⟨w.heap.size, t, n, cs⟩ :: L) R (w.alloc (.cells cs t)) :=
  h.new ((Below.refl _ _).alloc (Nat.le_refl _) _) (Nat.le_refl _) (Blk.new w _ _) hn
theorem Mem.newRow (h : Mem G w0 L R w) (hb : Below w.heap.size w w') {r : OwnR} (hr : w'.ownsRow w.heap.size r.e r.size r.v r.n r.xs) : Mem G w0 L (r :: R) w' := by
  have k := h.step hb
  have hlt := World.ownsRow.lt hr
  refine ⟨k.old, k.at_, k.ne, ?_, ?_, ?_⟩
  · intro s hs
    rcases List.mem_cons.1 hs with rfl | hs
    · refine ⟨hr.1, hr.2.imp id fun ⟨g, cap, cur, e, hbg, rest⟩ => ⟨g, cap, cur, e, Nat.le_trans h.le hbg, rest⟩⟩
    · exact k.rows s hs
  · intro s hs b hb
    rcases List.mem_cons.1 hs with rfl | hs
    · intro he
      have h1 := (hlt _ he).1
      have h2 := h.lt hb
      omega
    · exact k.apart s hs b hb
  · refine List.Pairwise.cons (fun s hs => ?_) k.rne
    cases hv : r.v.ownBlock with
    | none => exact .inl rfl
    | some j =>
      refine .inr fun he => ?_
      have h1 := (hlt _ hv).1
      have h2 := (World.ownsRow.lt (h.rows s hs) _ he.symm).2
      omega
theorem Mem.subL (h : Mem G w0 L R w) (hs : L'.Sublist L) : Mem G w0 L' R w :=
  ⟨h.old, fun b hb => h.at_ b (hs.subset hb), h.ne.sublist hs, h.rows, fun r hr b hb => h.apart r hr b (hs.subset hb), h.rne⟩
theorem Mem.subR (h : Mem G w0 L R w) (hs : R'.Sublist R) : Mem G w0 L R' w :=
  ⟨h.old, h.at_, h.ne, fun r hr => h.rows r (hs.subset hr), fun r hr b hb => h.apart r (hs.subset hr) b hb, h.rne.sublist hs⟩
/-! Names for the blocks of a list. -/
theorem Mem.name1 {g n : Nat} {t : TypeId} {cs : Array Value} (_ : Mem G w0 (⟨g, t, n, cs⟩ :: L) R w) : ∃ x, x = g := ⟨_, rfl⟩
theorem Mem.name2 {g n : Nat} {t : TypeId} {cs : Array Value} {e1 : Ent} (_ : Mem G w0 (e1 :: ⟨g, t, n, cs⟩ :: L) R w) : ∃ x, x = g := ⟨_, rfl⟩
theorem Mem.name3 {g n : Nat} {t : TypeId} {cs : Array Value} {e1 e2 : Ent} (_ : Mem G w0 (e1 :: e2 :: ⟨g, t, n, cs⟩ :: L) R w) : ∃ x, x = g := ⟨_, rfl⟩
theorem Mem.name4 {g n : Nat} {t : TypeId} {cs : Array Value} {e1 e2 e3 : Ent} (_ : Mem G w0 (e1 :: e2 :: e3 :: ⟨g, t, n, cs⟩ :: L) R w) : ∃ x, x = g := ⟨_, rfl⟩
theorem Mem.name5 {g n : Nat} {t : TypeId} {cs : Array Value} {e1 e2 e3 e4 : Ent} (_ : Mem G w0 (e1 :: e2 :: e3 :: e4 :: ⟨g, t, n, cs⟩ :: L) R w) : ∃ x, x = g := ⟨_, rfl⟩
theorem Mem.name6 {g n : Nat} {t : TypeId} {cs : Array Value} {e1 e2 e3 e4 e5 : Ent} (_ : Mem G w0 (e1 :: e2 :: e3 :: e4 :: e5 :: ⟨g, t, n, cs⟩ :: L) R w) : ∃ x, x = g := ⟨_, rfl⟩
theorem Mem.name7 {g n : Nat} {t : TypeId} {cs : Array Value} {e1 e2 e3 e4 e5 e6 : Ent} (_ : Mem G w0 (e1 :: e2 :: e3 :: e4 :: e5 :: e6 :: ⟨g, t, n, cs⟩ :: L) R w) : ∃ x, x = g := ⟨_, rfl⟩
theorem Mem.name8 {g n : Nat} {t : TypeId} {cs : Array Value} {e1 e2 e3 e4 e5 e6 e7 : Ent} (_ : Mem G w0 (e1 :: e2 :: e3 :: e4 :: e5 :: e6 :: e7 :: ⟨g, t, n, cs⟩ :: L) R w) : ∃ x, x = g := ⟨_, rfl⟩
/-- The cells of one block turn. -/
theorem Mem.put {g : Nat} {t : TypeId} {n : Nat} {cs cs' : Array Value} {F : Array Value → List Ent} (h : Mem G w0 L R w) (hu : UpdL g t n cs L F) (ho : Only g w w') (hB : Blk w' g t cs') (hn : cs'.size = n) : Mem G w0 (F cs') R w' := by
  obtain ⟨A, B, rfl, hF⟩ := hu
  rw [hF]
  have hin : (⟨g, t, n, cs⟩ : Ent) ∈ A ++ ⟨g, t, n, cs⟩ :: B := by simp
  have hne := h.ne
  rw [List.pairwise_append] at hne
  obtain ⟨n1, n2, n3⟩ := hne
  rw [List.pairwise_cons] at n2
  have hold : ∀ b, (b ∈ A ∨ b ∈ B) → b ∈ A ++ ⟨g, t, n, cs⟩ :: B ∧ b.g ≠ g := by
    intro b hb
    rcases hb with hb | hb
    · exact ⟨by simp [hb], n3 b hb ⟨g, t, n, cs⟩ (by simp)⟩
    · exact ⟨by simp [hb], fun he => n2.1 b hb he.symm⟩
  refine ⟨h.old.then ho.os ho.tape ho.output ho.size (fun k hk hG => ho.block k (Nat.lt_of_lt_of_le hk h.le) ?_), ?_, ?_, ?_, ?_, h.rne⟩
  · rintro ⟨⟩
    rcases (h.at_ _ hin).1 with h1 | h1
    · simp only at h1
      omega
    · exact hG h1
  · intro b hb
    rcases List.mem_append.1 hb with hb | hb
    · obtain ⟨h1, h2⟩ := hold b (.inl hb)
      exact ⟨(h.at_ b h1).1, (h.blk h1).only ho h2, (h.at_ b h1).2.2⟩
    · rcases List.mem_cons.1 hb with rfl | hb
      · exact ⟨(h.at_ _ hin).1, hB, hn⟩
      · obtain ⟨h1, h2⟩ := hold b (.inr hb)
        exact ⟨(h.at_ b h1).1, (h.blk h1).only ho h2, (h.at_ b h1).2.2⟩
  · rw [List.pairwise_append]
    refine ⟨n1, List.pairwise_cons.2 ⟨n2.1, n2.2⟩, fun b hb c hc => ?_⟩
    rcases List.mem_cons.1 hc with rfl | hc
    · exact n3 b hb ⟨g, t, n, cs⟩ (by simp)
    · exact n3 b hb c (by simp [hc])
  · intro r hr
    exact World.ownsRow.kept (h.rows r hr) ho (.inr (h.apart r hr _ hin))
  · intro r hr b hb
    rcases List.mem_append.1 hb with hb | hb
    · exact h.apart r hr b (hold b (.inl hb)).1
    · rcases List.mem_cons.1 hb with rfl | hb
      · exact h.apart r hr ⟨g, t, n, cs⟩ hin
      · exact h.apart r hr b (hold b (.inr hb)).1
theorem Mem.setCell {g : Nat} {t : TypeId} {n : Nat} {cs : Array Value} {F : Array Value → List Ent} (h : Mem G w0 L R w) (hu : UpdL g t n cs L F) (i : Nat) (v : Value) : Mem G w0 (F (cs.setIfInBounds i v)) R (w.setCell ⟨g, i, none⟩ v) := by
  have hin : (⟨g, t, n, cs⟩ : Ent) ∈ L := by obtain ⟨A, B, rfl, _⟩ := hu; simp
  exact h.put hu ((Only.refl g w).setCell i v) ((h.blk hin).set i v) (by have := h.size hin; simpa using this)
/-- A row grows or turns. -/
theorem Mem.rowPut {r r' : OwnR} {F : OwnR → List OwnR} (h : Mem G w0 L R w) (hu : UpdR r R F) (hg : w.grownBy w' r.v.ownBlock) (hr : w'.ownsRow w0.heap.size r'.e r'.size r'.v r'.n r'.xs)
    (ho : r'.v.ownBlock = r.v.ownBlock ∨ r'.v.ownBlock = some w.heap.size) : Mem G w0 L (F r') w' := by
  obtain ⟨A, B, rfl, hF⟩ := hu
  rw [hF]
  have hin : r ∈ A ++ r :: B := by simp
  have hbase : ∀ k, r.v.ownBlock = some k → w0.heap.size ≤ k ∧ k < w.heap.size := World.ownsRow.lt (h.rows r hin)
  have hne := h.rne
  rw [List.pairwise_append] at hne
  obtain ⟨n1, n2, n3⟩ := hne
  rw [List.pairwise_cons] at n2
  have hold : ∀ s, (s ∈ A ∨ s ∈ B) → s ∈ A ++ r :: B ∧ (s.v.ownBlock = none ∨ s.v.ownBlock ≠ r.v.ownBlock) := by
    intro s hs
    rcases hs with hs | hs
    · exact ⟨by simp [hs], n3 s hs _ (by simp)⟩
    · refine ⟨by simp [hs], ?_⟩
      rcases n2.1 s hs with h1 | h1
      · cases hv : s.v.ownBlock with
        | none => exact .inl rfl
        | some j => exact .inr (by rw [h1]; simp)
      · exact .inr fun he => h1 he.symm
  have hnew : ∀ s, (s ∈ A ∨ s ∈ B) → s.v.ownBlock = none ∨ s.v.ownBlock ≠ r'.v.ownBlock := by
    intro s hs
    obtain ⟨h1, h2⟩ := hold s hs
    rcases h2 with h2 | h2
    · exact .inl h2
    · refine .inr fun he => ?_
      rcases ho with h3 | h3
      · exact h2 (he.trans h3)
      · have := (World.ownsRow.lt (h.rows s h1) _ (he.trans h3)).2
        omega
  refine ⟨h.old.then hg.os hg.tape hg.output hg.size (fun k hk _ => hg.block k (Nat.lt_of_lt_of_le hk h.le) ?_), ?_, h.ne, ?_, ?_, ?_⟩
  · intro he
    have := (hbase k he.symm).1
    omega
  · intro b hb
    refine ⟨(h.at_ b hb).1, ?_, (h.at_ b hb).2.2⟩
    exact (hg.block _ (h.lt hb) (fun he => h.apart r hin b hb he.symm)).trans (h.blk hb)
  · intro s hs
    rcases List.mem_append.1 hs with hs | hs
    · obtain ⟨h1, h2⟩ := hold s (.inl hs)
      exact World.ownsRow.kept (h.rows s h1) hg h2
    · rcases List.mem_cons.1 hs with rfl | hs
      · exact hr
      · obtain ⟨h1, h2⟩ := hold s (.inr hs)
        exact World.ownsRow.kept (h.rows s h1) hg h2
  · intro s hs b hb
    rcases List.mem_append.1 hs with hs | hs
    · exact h.apart s (hold s (.inl hs)).1 b hb
    · rcases List.mem_cons.1 hs with rfl | hs
      · rcases ho with h3 | h3
        · rw [h3]; exact h.apart r hin b hb
        · rw [h3]
          have := h.lt hb
          simp only [ne_eq, Option.some.injEq]
          omega
      · exact h.apart s (hold s (.inr hs)).1 b hb
  · rw [List.pairwise_append]
    refine ⟨n1, List.pairwise_cons.2 ⟨fun s hs => ?_, n2.2⟩, fun s hs c hc => ?_⟩
    · cases hv : r'.v.ownBlock with
      | none => exact .inl rfl
      | some j =>
        refine .inr fun he => ?_
        rcases hnew s (.inr hs) with h1 | h1
        · rw [h1] at he; cases he
        · exact h1 (by rw [← he, hv])
    · rcases List.mem_cons.1 hc with rfl | hc
      · exact hnew s (.inl hs)
      · exact n3 s hs c (by simp [hc])
end
/-! ### Operations -/
/-! Which operation comes next (for the walk's arms). -/
section
variable {P : Program} {w : World} {ops : Array Oper} {rest : List Oper} {a : Act} {Q : Exit → Act → World → Prop} {dst : Option Tmp} {type : TypeId} {pos : String} {after : Array Edge}
theorem at_load {t : TypeId} {x : Operand} (h : wpList P ops Q (⟨dst, .load t x, type, pos, after, none⟩ :: rest) a w) : wpList P ops Q (⟨dst, .load t x, type, pos, after, none⟩ :: rest) a w := h
theorem at_store {t : TypeId} {x y : Operand} (h : wpList P ops Q (⟨dst, .store t x y, type, pos, after, none⟩ :: rest) a w) : wpList P ops Q (⟨dst, .store t x y, type, pos, after, none⟩ :: rest) a w := h
theorem at_alloc {t : TypeId} (h : wpList P ops Q (⟨dst, .alloc t, type, pos, after, none⟩ :: rest) a w) : wpList P ops Q (⟨dst, .alloc t, type, pos, after, none⟩ :: rest) a w := h
theorem at_box {t : TypeId} {x : Operand} (h : wpList P ops Q (⟨dst, .box t x, type, pos, after, none⟩ :: rest) a w) : wpList P ops Q (⟨dst, .box t x, type, pos, after, none⟩ :: rest) a w := h
theorem at_build {t : TypeId} {ps : Array (Nat × Operand)} (h : wpList P ops Q (⟨dst, .build t ps, type, pos, after, none⟩ :: rest) a w) : wpList P ops Q (⟨dst, .build t ps, type, pos, after, none⟩ :: rest) a w := h
theorem at_append {xs : Array Operand} {ts : Array TypeId} (h : wpList P ops Q (⟨dst, .call { callee := .builtin .append, args := xs, argTypes := ts }, type, pos, after, none⟩ :: rest) a w) : wpList P ops Q (⟨dst, .call { callee := .builtin .append, args := xs, argTypes := ts }, type, pos, after, none⟩ :: rest) a w := h
end
theorem at_load_g {P : Program} {w : World} {ops : Array Oper} {rest : List Oper} {a : Act} {Q : Exit → Act → World → Prop} {dst : Option Tmp} {type : TypeId} {pos : String} {after : Array Edge} {t : TypeId} {x : Operand} {g : Nat × Bool}
    (hw : Region.wanted ⟨dst, .load t x, type, pos, after, some g⟩ (yielded ops a.tmps) = true) (h : wpList P ops Q (⟨dst, .load t x, type, pos, after, none⟩ :: rest) a w) : wpList P ops Q (⟨dst, .load t x, type, pos, after, some g⟩ :: rest) a w := by
  unfold wpList at h ⊢
  rw [if_pos hw]
  rw [if_pos (by simp [Region.wanted])] at h
  exact h
theorem at_calls {P : Program} {f : FuncId} {args : Array Value} {w : World} {X : Ending → World → Prop} (h : Calls P f args w X) : Calls P f args w X := h
/-- The number with an index; a word of its own, so that the walk leaves it as it is. -/
def nth (l : List Nat) (i : Nat) : Nat := l.getD i 0
/-- A type of several cells; a type of one cell. -/
structure RowTy (P : Program) (ty : TypeId) (n : Nat) : Prop where
  ex : ∃ d, P.underlying ty = some d ∧ isRow d = true ∧ (P.info? ty).map (·.size) = some n
structure OneTy (P : Program) (ty : TypeId) : Prop where
  ex : ∃ d, P.underlying ty = some d ∧ isRow d = false ∧ (P.info? ty).map (·.size) = some 1
section
variable {P : Program} {w w0 : World} {G : List Nat} {L : List Ent} {R : List OwnR} {ops : Array Oper} {rest : List Oper} {o : Oper} {a : Act} {Q : Exit → Act → World → Prop}
theorem run_load_one {ty : TypeId} (hty : OneTy P ty) {g i : Nat} {t : TypeId} {cs : Array Value} {v : Value} (hB : Blk w g t cs) (hv : cs[i]? = some v) : (loadVar ty ⟨g, i, none⟩).run P w = .ok v w := by
  obtain ⟨d, hu, hd, _⟩ := hty.ex
  have hc := hB.cell i
  rw [hv] at hc
  simp [loadVar, Sem.run_bind, run_isAgg_no hu hd, hc]
theorem run_store_one {ty : TypeId} (hty : OneTy P ty) {g i : Nat} {t : TypeId} {cs : Array Value} {v : Value} (hB : Blk w g t cs) (hi : i < cs.size) (h1 : v.oneCell' = true) :
    (storeVar ty ⟨g, i, none⟩ v).run P w = .ok () (w.setRow g (cs.setIfInBounds i v)) := by
  obtain ⟨d, hu, hd, hs⟩ := hty.ex
  have hc : v.cells = #[v] := by cases v <;> simp_all [Value.cells, Value.oneCell']
  have := run_storeCells_at P g i t [v] 0 cs w hB (by simp; omega) (by simpa using h1)
  simp only [Nat.add_zero] at this
  simp only [storeVar, hc, Sem.run_bind, run_sizeOf hs, Result.andThen_ok, List.size_toArray, List.length_cons, List.length_nil, ne_eq, not_true_eq_false, if_false, this]
  congr 2
  apply Array.ext'
  simp [List.set_eq_take_append_cons_drop, hi]
theorem wpList_mem_load (hM : Mem G w0 L R w) (hgd : o.guard = none) (ty : TypeId) (x : Operand) (ho : o.op = .load ty x) (g : Nat) (hx : a.eval x = .pointer (some ⟨g, 0, none⟩))
    (t : TypeId) (n : Nat) (cs : Array Value) (hL : ⟨g, t, n, cs⟩ ∈ L) (hty : RowTy P ty n) (h : wpList P ops Q rest (a.put o.dst (.agg cs)) w) : wpList P ops Q (o :: rest) a w := by
  obtain ⟨d, hu, hd, hi⟩ := hty.ex
  exact wpList_load_blk hgd ty x ho g hx t cs n d (hM.blk hL) hu hd hi (hM.size hL) h
theorem wpList_mem_part (hM : Mem G w0 L R w) (hgd : o.guard = none) (ty : TypeId) (x : Operand) (ho : o.op = .load ty x) (g off : Nat) (hx : a.eval x = .pointer (some ⟨g, off, none⟩))
    (t : TypeId) (n : Nat) (cs : Array Value) (hL : ⟨g, t, n, cs⟩ ∈ L) (m : Nat) (hty : RowTy P ty m) (hm : off + m ≤ n) (X : Array Value) (hX : cs.extract off (off + m) = X)
    (h : wpList P ops Q rest (a.put o.dst (.agg X)) w) : wpList P ops Q (o :: rest) a w := by
  obtain ⟨d, hu, hd, hi⟩ := hty.ex
  exact wpList_load_part hgd ty x ho g off hx t cs m d (hM.blk hL) hu hd hi (by have := hM.size hL; omega) X hX h
theorem wpList_mem_cell (hM : Mem G w0 L R w) (hgd : o.guard = none) (ty : TypeId) (x : Operand) (ho : o.op = .load ty x) (g i : Nat) (hx : a.eval x = .pointer (some ⟨g, i, none⟩))
    (t : TypeId) (n : Nat) (cs : Array Value) (hL : ⟨g, t, n, cs⟩ ∈ L) (hty : OneTy P ty) (v : Value) (hv : cs[i]? = some v)
    (h : wpList P ops Q rest (a.put o.dst v) w) : wpList P ops Q (o :: rest) a w :=
  wpList_plain hgd fun K hK => by
    unfold Oper.wp execOp
    simp only [ho, hx, Instr.loadAt, Instr.sureAddr, Sem.run_bind, Sem.run_pure, Result.andThen_ok, run_load_one hty (hM.blk hL) hv]
    exact hK _ _ h
/-- A number out of a block of numbers. -/
theorem wpList_mem_num (hM : Mem G w0 L R w) (hgd : o.guard = none) (ty : TypeId) (x : Operand) (ho : o.op = .load ty x) (g i : Nat) (hx : a.eval x = .pointer (some ⟨g, i, none⟩))
    (t : TypeId) (n : Nat) (k : IntKind) (l : List Nat) (hL : ⟨g, t, n, cellsOf k l⟩ ∈ L) (hty : OneTy P ty) (hi : i < n)
    (h : wpList P ops Q rest (a.put o.dst (.int k (nth l i : Nat))) w) : wpList P ops Q (o :: rest) a w :=
  wpList_mem_cell hM hgd ty x ho g i hx t n _ hL hty _ (cellsOf_get k l i (by have := hM.size hL; simp at this; omega)) h
theorem wpList_mem_store (hM : Mem G w0 L R w) (hgd : o.guard = none) (ty : TypeId) (x y : Operand) (ho : o.op = .store ty x y) (g : Nat) (hx : a.eval x = .pointer (some ⟨g, 0, none⟩))
    (vs : Array Value) (hy : a.eval y = .agg vs) (t : TypeId) (n : Nat) (cs : Array Value) (F : Array Value → List Ent) (hL : UpdL g t n cs L F) (hty : RowTy P ty n) (hv : vs.size = n) (h1 : ∀ v ∈ vs.toList, v.oneCell' = true)
    (hdst : o.dst = none) (h : ∀ w', Mem G w0 (F vs) R w' → wpList P ops Q rest a w') : wpList P ops Q (o :: rest) a w := by
  obtain ⟨d, hu, hd, hi⟩ := hty.ex
  have hin : (⟨g, t, n, cs⟩ : Ent) ∈ L := by obtain ⟨A, B, rfl, _⟩ := hL; simp
  have hb := hM.blk hin
  exact wpList_store_blk hgd ty x y ho g hx vs hy t cs n hb hi hv (hM.size hin) h1 hdst fun w' hw' => h w' (hM.put hL (hw' ▸ (Only.refl g w).setRow vs) (hw' ▸ hb.row vs) hv)
theorem wpList_mem_store_part (hM : Mem G w0 L R w) (hgd : o.guard = none) (ty : TypeId) (x y : Operand) (ho : o.op = .store ty x y) (g off : Nat) (hx : a.eval x = .pointer (some ⟨g, off, none⟩))
    (vs : Array Value) (hy : a.eval y = .agg vs) (t : TypeId) (n : Nat) (cs : Array Value) (F : Array Value → List Ent) (hL : UpdL g t n cs L F) (m : Nat) (hty : RowTy P ty m) (hv : vs.size = m) (hm : off + m ≤ n) (h1 : ∀ v ∈ vs.toList, v.oneCell' = true)
    (hdst : o.dst = none) (X : Array Value) (hX : (splice cs.toList off vs.toList).toArray = X) (h : ∀ w', Mem G w0 (F X) R w' → wpList P ops Q rest a w') : wpList P ops Q (o :: rest) a w := by
  obtain ⟨d, hu, hd, hi⟩ := hty.ex
  have hin : (⟨g, t, n, cs⟩ : Ent) ∈ L := by obtain ⟨A, B, rfl, _⟩ := hL; simp
  have hb := hM.blk hin
  have hs := hM.size hin
  have hXs : X.size = n := by rw [← hX]; simp [splice]; omega
  exact wpList_store_part hgd ty x y ho g off hx vs hy t cs m hb hi hv (by omega) h1 hdst fun w' hw' => h w' (by rw [hX] at hw'; exact hM.put hL (hw' ▸ (Only.refl g w).setRow X) (hw' ▸ hb.row X) hXs)
theorem wpList_mem_set (hM : Mem G w0 L R w) (hgd : o.guard = none) (ty : TypeId) (x y : Operand) (ho : o.op = .store ty x y) (g i : Nat) (hx : a.eval x = .pointer (some ⟨g, i, none⟩))
    (v : Value) (hy : a.eval y = v) (t : TypeId) (n : Nat) (cs : Array Value) (F : Array Value → List Ent) (hL : UpdL g t n cs L F) (hty : OneTy P ty) (hi : i < n) (h1 : v.oneCell' = true)
    (hdst : o.dst = none) (h : ∀ w', Mem G w0 (F (cs.setIfInBounds i v)) R w' → wpList P ops Q rest a w') : wpList P ops Q (o :: rest) a w := by
  have hin : (⟨g, t, n, cs⟩ : Ent) ∈ L := by obtain ⟨A, B, rfl, _⟩ := hL; simp
  have hb := hM.blk hin
  have hs := hM.size hin
  have hic : i < cs.size := by omega
  have hrun := run_store_one (w := w) (v := v) hty hb hic h1
  refine wpList_plain hgd fun K hK => ?_
  unfold Oper.wp execOp
  simp only [ho, hx, hy, Instr.storeAt, Instr.sureAddr, Sem.run_bind, Sem.run_pure, Result.andThen_ok, hrun]
  show K (a.put o.dst undef) _
  rw [hdst]
  exact hK _ _ (h _ (hM.put hL ((Only.refl g w).setRow _) (hb.row _) (by simpa using hs)))
/-- A number into a block of numbers. -/
theorem wpList_mem_setnum (hM : Mem G w0 L R w) (hgd : o.guard = none) (ty : TypeId) (x y : Operand) (ho : o.op = .store ty x y) (g i : Nat) (hx : a.eval x = .pointer (some ⟨g, i, none⟩))
    (k : IntKind) (z : Int) (hy : a.eval y = .int k z) (t : TypeId) (n : Nat) (l : List Nat) (F : Array Value → List Ent) (hL : UpdL g t n (cellsOf k l) L F) (hty : OneTy P ty) (hi : i < n) (v : Nat) (hv : z = (v : Int))
    (hdst : o.dst = none) (h : ∀ w', Mem G w0 (F (cellsOf k (l.set i v))) R w' → wpList P ops Q rest a w') : wpList P ops Q (o :: rest) a w := by
  subst hv
  exact wpList_mem_set hM hgd ty x y ho g i hx _ hy t n _ F hL hty hi rfl hdst fun w' hw' => h w' (by rw [cellsOf_set] at hw'; exact hw')
theorem wpList_mem_alloc (hM : Mem G w0 L R w) (hgd : o.guard = none) (ty : TypeId) (ho : o.op = .alloc ty) (z : Value) (hz : (P.info? ty).map (·.zero) = some (some z)) (n : Nat) (hn : z.cells.size = n)
    (h : ∀ g w', Mem G w0 (⟨g, ty, n, z.cells⟩ :: L) R w' → wpList P ops Q rest (a.put o.dst (.pointer (some ⟨g, 0, none⟩))) w') : wpList P ops Q (o :: rest) a w :=
  wpList_alloc_zero hgd ty ho z hz (h _ _ (hM.alloc _ _ hn))
theorem wpList_mem_box (hM : Mem G w0 L R w) (hgd : o.guard = none) (ty : TypeId) (x : Operand) (ho : o.op = .box ty x) (cs : Array Value) (hx : a.eval x = .agg cs) (n : Nat) (_ : RowTy P ty n) (hn : cs.size = n)
    (h : ∀ g w', Mem G w0 (⟨g, ty, n, cs⟩ :: L) R w' → wpList P ops Q rest (a.put o.dst (.pointer (some ⟨g, 0, none⟩))) w') : wpList P ops Q (o :: rest) a w :=
  wpList_plain hgd fun K hK => by
    unfold Oper.wp execOp
    simp only [ho, hx, Instr.box, newVar, newRow, newObj, Sem.run_bind, Sem.run_pure, Value.cells]
    exact hK _ _ (h _ _ (hM.alloc cs ty hn))
/-- The zero value of a type, as cells. -/
structure ZeroTy (P : Program) (ty : TypeId) (n : Nat) (cs : Array Value) : Prop where
  ex : ∃ z, (P.info? ty).map (·.zero) = some (some z) ∧ z.cells = cs ∧ cs.size = n
theorem wpList_mem_zero (hM : Mem G w0 L R w) (hgd : o.guard = none) (ty : TypeId) (ho : o.op = .alloc ty) (n : Nat) (cs : Array Value) (hz : ZeroTy P ty n cs)
    (h : ∀ g w', Mem G w0 (⟨g, ty, n, cs⟩ :: L) R w' → wpList P ops Q rest (a.put o.dst (.pointer (some ⟨g, 0, none⟩))) w') : wpList P ops Q (o :: rest) a w := by
  obtain ⟨z, hzz, rfl, hn⟩ := hz.ex
  exact wpList_mem_alloc hM hgd ty ho z hzz n hn h
structure ArrTy (P : Program) (ty : TypeId) : Prop where
  ex : ∃ m e k, P.underlying ty = some (.array m e) ∧ (P.info? e).map (·.size) = some k
/-- The zero value of an array type, written 'T{}'. -/
theorem wpList_build_zero (hgd : o.guard = none) (ty : TypeId) (ho : o.op = .build ty #[]) (n : Nat) (cs : Array Value) (hz : ZeroTy P ty n cs) (hA : ArrTy P ty)
    (h : wpList P ops Q rest (a.put o.dst (.agg cs)) w) : wpList P ops Q (o :: rest) a w := by
  obtain ⟨z, hzz, rfl, _⟩ := hz.ex
  obtain ⟨m, e, k, hu, he⟩ := hA.ex
  refine wpList_plain hgd fun K hK => ?_
  cases hq : P.info? ty with
  | none => simp [hq] at hzz
  | some i =>
    have hz' : i.zero = some z := by simpa [hq] using hzz
    have hzr : (zeroValue ty).run P w = .ok z w := by simp [zeroValue, typeInfo, hq, hz']
    unfold Oper.wp execOp
    simp only [ho, Instr.build, Sem.run_bind, hzr, run_underlying hu, Result.andThen_ok, run_sizeOf he, Array.map_empty, Instr.fill, Sem.run_pure]
    exact hK _ _ h
/-- A block that was laid anew gets into the list. -/
theorem wpList_mem_new (k : IntKind) (xs : List Nat) {cs : Array Value} {t : TypeId} (hM : Mem G w0 L R w) (hcs : cs = cellsOf k xs) {l : List Oper} (h : ∀ w', Mem G w0 (⟨w.heap.size, t, xs.length, cellsOf k xs⟩ :: L) R w' → wpList P ops Q l a w') : wpList P ops Q l a (w.alloc (.cells cs t)) :=
  h _ (by rw [hcs]; exact hM.alloc _ _ (by simp))
theorem results_mem_cell (hM : Mem G w0 L R w) {fn : Func} {p : Tmp} {ty : TypeId} (h : fn.results = #[.cell p ty]) {tmps : Array Value} {g : Nat} (hp : tmps.getD p undef = .pointer (some ⟨g, 0, none⟩)) {t : TypeId} {n : Nat} {cs : Array Value}
    (hL : ⟨g, t, n, cs⟩ ∈ L) (hty : RowTy P ty n) : (results fn tmps).run P w = .ok (.agg cs) w := by
  obtain ⟨d, hu, hd, hi⟩ := hty.ex
  exact results_cell_row h tmps w g t cs (0, 0) d hp (hM.blk hL) hu (by cases d <;> simp_all [isRow]) (by rw [hi, hM.size hL])
theorem results_mem_cell_tmp (hM : Mem G w0 L R w) {fn : Func} {p u : Tmp} {ty : TypeId} (h : fn.results = #[.cell p ty, .tmp u]) {tmps : Array Value} {g : Nat} (hp : tmps.getD p undef = .pointer (some ⟨g, 0, none⟩)) {t : TypeId} {n : Nat} {cs : Array Value}
    (hL : ⟨g, t, n, cs⟩ ∈ L) (hty : RowTy P ty n) {e : Value} (he : tmps.getD u undef = e) : (results fn tmps).run P w = .ok (.tuple #[.agg cs, e]) w := by
  obtain ⟨d, hu, hd, hi⟩ := hty.ex
  rw [results_cell_tmp h, hp, he]
  have hl := run_loadVar_row (P := P) w g t ty cs (0, 0) d (hM.blk hL) hu (by cases d <;> simp_all [isRow]) (by rw [hi, hM.size hL])
  simp [asAddr, hl]
/-! ### In a region whose order is drawn -/
section
variable {C : World → Prop}
theorem quietAt_mem_load (hM : Mem G w0 L R w) (ty : TypeId) (x : Operand) (ho : o.op = .load ty x) (g : Nat) (hx : a.eval x = .pointer (some ⟨g, 0, none⟩)) (t : TypeId) (n : Nat) (cs : Array Value) (hL : ⟨g, t, n, cs⟩ ∈ L) (hty : RowTy P ty n) :
    o.quietAt P a C w (.agg cs) := by
  obtain ⟨d, hu, hd, hi⟩ := hty.ex
  have hs := hM.size hL
  exact quietAt_load ty x ho g 0 hx t cs n d (hM.blk hL) hu hd hi (by omega) cs (by simp [← hs])
theorem quietAt_mem_part (hM : Mem G w0 L R w) (ty : TypeId) (x : Operand) (ho : o.op = .load ty x) (g off : Nat) (hx : a.eval x = .pointer (some ⟨g, off, none⟩)) (t : TypeId) (n : Nat) (cs : Array Value) (hL : ⟨g, t, n, cs⟩ ∈ L) (m : Nat) (hty : RowTy P ty m)
    (hm : off + m ≤ n) (X : Array Value) (hX : cs.extract off (off + m) = X) : o.quietAt P a C w (.agg X) := by
  obtain ⟨d, hu, hd, hi⟩ := hty.ex
  have hs := hM.size hL
  exact quietAt_load ty x ho g off hx t cs m d (hM.blk hL) hu hd hi (by omega) X hX
theorem quietAt_mem_cell (hM : Mem G w0 L R w) (ty : TypeId) (x : Operand) (ho : o.op = .load ty x) (g i : Nat) (hx : a.eval x = .pointer (some ⟨g, i, none⟩)) (t : TypeId) (n : Nat) (cs : Array Value) (hL : ⟨g, t, n, cs⟩ ∈ L) (hty : OneTy P ty) (v : Value) (hv : cs[i]? = some v) :
    o.quietAt P a C w v := by
  unfold Oper.quietAt execOp
  simp only [ho, hx, Instr.loadAt, Instr.sureAddr, Sem.run_bind, Sem.run_pure, Result.andThen_ok, run_load_one hty (hM.blk hL) hv]
  exact ⟨rfl, rfl⟩
theorem quietAt_mem_num (hM : Mem G w0 L R w) (ty : TypeId) (x : Operand) (ho : o.op = .load ty x) (g i : Nat) (hx : a.eval x = .pointer (some ⟨g, i, none⟩)) (t : TypeId) (n : Nat) (k : IntKind) (l : List Nat) (hL : ⟨g, t, n, cellsOf k l⟩ ∈ L) (hty : OneTy P ty) (hi : i < n) :
    o.quietAt P a C w (.int k (nth l i : Nat)) :=
  quietAt_mem_cell hM ty x ho g i hx t n _ hL hty _ (cellsOf_get k l i (by have := hM.size hL; simp at this; omega))
theorem quiet_mem_call {f : FuncId} {args : Array Value} {w' : World} {v : Value} (hM : Mem G w0 L R w') (h : Calls P f args w' fun e w'' => e = .returned v ∧ Below w'.heap.size w' w'') :
    Calls P f args w' fun e w'' => e = .returned v ∧ Mem G w0 L R w'' := h.mono fun _ _ ⟨he, hb⟩ => ⟨he, hM.step hb⟩
theorem quiet_mem_call_same {f : FuncId} {args : Array Value} {w' : World} {v : Value} (hM : Mem G w0 L R w') (h : Calls P f args w' fun e w'' => e = .returned v ∧ w' = w'') :
    Calls P f args w' fun e w'' => e = .returned v ∧ Mem G w0 L R w'' := h.mono fun _ _ ⟨he, hb⟩ => ⟨he, hb ▸ hM⟩
theorem quiet_unwanted {K : Act → Prop} (hg : Region.wanted o (yielded ops a.tmps) = false) (h : K (a.put o.dst undef)) : if Region.wanted o (yielded ops a.tmps) then o.quiet P a C K else K (a.put o.dst undef) := by
  rw [if_neg (by simp [hg])]
  exact h
end
end
end Go.Bul.Hp
namespace Go.Proofs.YtbbdnlcjjcmllaaDoor.Once
open Go Go.RowKit Go.Bul Go.Bul.Hp
/-- A row of bytes. -/
def brow (v : Value) (xs : List Nat) : OwnR := ⟨5, 1, v, xs.length, vals .u8 xs⟩
section
variable {G : List Nat} {w0 w : World} {L : List Ent} {R : List OwnR} {ops : Array Oper} {rest : List Oper} {o : Oper} {a : Act} {Q : Exit → Act → World → Prop}
theorem mem_of_updR {r : OwnR} {R : List OwnR} {F : OwnR → List OwnR} (h : UpdR r R F) : r ∈ R := by obtain ⟨A, B, rfl, _⟩ := h; simp
theorem brow_own {v : Value} {xs : List Nat} (hM : Mem G w0 L R w) (h : brow v xs ∈ R) : OwnB w w0.heap.size v xs := hM.rows _ h
theorem brow_rd {A : Option Addr} {n c : Nat} {xs : List Nat} (hM : Mem G w0 L R w) (h : brow (.slice A n c) xs ∈ R) (hb : Bytes xs) : Rd w (fun _ => True) A n xs ∧ n ≤ c ∧ n = xs.length := by
  have h0 := brow_own hM h
  obtain ⟨A', c', he, _⟩ := own_form h0
  have hn : n = xs.length := by injection he
  obtain ⟨h1, h2⟩ := h0.rd hn hb
  exact ⟨h1.imp fun _ _ _ => trivial, h2, hn⟩
/-- A block of bytes, or a part of it, read as a slice. -/
theorem ent_rd {g n : Nat} {t : TypeId} {xs : List Nat} (hM : Mem G w0 L R w) (h : ⟨g, t, n, cellsOf .u8 xs⟩ ∈ L) (hb : Bytes xs) (off m : Nat) (hm : off + m ≤ n) : Rd w (fun _ => True) (some ⟨g, off, none⟩) m ((xs.drop off).take m) := by
  have hs := hM.size h
  have hB := hM.blk h
  simp only [cellsOf_size] at hs
  refine ⟨by rw [List.length_take, List.length_drop]; omega, (hb.drop _).take _, fun _ => ⟨_, rfl, trivial, hB.lt, fun j hj => ?_⟩⟩
  rw [addr_at]
  have h1 := hB.num (k := .u8) (l := xs) (i := off + j) (by omega)
  simp only at h1
  rw [h1]
  simp [List.getD, hj]
theorem ent_rd_whole {g n : Nat} {t : TypeId} {xs : List Nat} (hM : Mem G w0 L R w) (h : ⟨g, t, n, cellsOf .u8 xs⟩ ∈ L) (hb : Bytes xs) : Rd w (fun _ => True) (some ⟨g, 0, none⟩) n xs := by
  have hs := hM.size h
  simp only [cellsOf_size] at hs
  have := ent_rd hM h hb 0 n (by omega)
  rwa [List.drop_zero, List.take_of_length_le (by omega)] at this
/-- append bytes onto a row of bytes. -/
theorem wpList_mem_bytes (hM : Mem G w0 L R w) (hgd : o.guard = none) (s x : Operand) (t : TypeId) (ho : o.op = .call { callee := .builtin .append, args := #[s, x], argTypes := #[t, t] }) (ht : Tryd.prog.underlying t = some (.slice 5))
    (v : Value) (hs : a.eval s = v) (xs : List Nat) (F : OwnR → List OwnR) (hR : UpdR (brow v xs) R F) (A : Option Addr) (m c : Nat) (hx : a.eval x = .slice A m c) (ok : Nat → Prop) (ys : List Nat) (hr : Rd w ok A m ys) (h63 : xs.length + ys.length ≤ 140737488355328)
    (h : ∀ A' N c' w', Hid (N = (xs ++ ys).length) → Mem G w0 L (F (brow (.slice A' N c') (xs ++ ys))) w' → wpList Tryd.prog ops Q rest (a.put o.dst (.slice A' N c')) w') : wpList Tryd.prog ops Q (o :: rest) a w := by
  refine wpList_append_bytes hgd s x t ho ht w0.heap.size v xs hs (brow_own hM (mem_of_updR hR)) ok A m c ys hx hr (xs ++ ys) rfl _ rfl (by rw [List.length_append]; exact h63) hM.le ?_
  intro A' c' w' h1 h2 h3 h4
  exact h A' _ c' w' (Lib.hid rfl) (hM.rowPut hR h3 h1 h4)
end
end Go.Proofs.YtbbdnlcjjcmllaaDoor.Once
namespace Go.Proofs.YtbbdnlcjjcmllaaDoor.Once
open Go Go.RowKit Go.Bul Go.Bul.Hp
theorem row_a16 : RowTy Tryd.prog 23 16 := ⟨⟨_, Tryd.underlying23, rfl, by kernel_rfl⟩⟩
theorem row_a32 : RowTy Tryd.prog 22 32 := ⟨⟨_, Tryd.underlying22, rfl, by kernel_rfl⟩⟩
theorem row_i35 : RowTy Tryd.prog 83 35 := ⟨⟨_, Tryd.underlying83, rfl, by kernel_rfl⟩⟩
theorem row_e35 : RowTy Tryd.prog 34 560 := ⟨⟨_, Tryd.underlying34, rfl, by kernel_rfl⟩⟩
theorem row_sig : RowTy Tryd.prog 77 560 := ⟨⟨_, Tryd.underlying77, rfl, by kernel_rfl⟩⟩
theorem one_u8 : OneTy Tryd.prog 5 := ⟨⟨_, Tryd.underlying5, rfl, by kernel_rfl⟩⟩
theorem one_int : OneTy Tryd.prog 3 := ⟨⟨_, Tryd.underlying3, rfl, by kernel_rfl⟩⟩
theorem zero_a16 : ZeroTy Tryd.prog 23 16 (cellsOf .u8 (zeros 16)) := ⟨⟨.agg _, by kernel_rfl, rfl, zeros_size _ _⟩⟩
theorem zero_a32' : ZeroTy Tryd.prog 22 32 (cellsOf .u8 (zeros 32)) := ⟨⟨.agg _, by kernel_rfl, rfl, zeros_size _ _⟩⟩
theorem zero_i35' : ZeroTy Tryd.prog 83 35 (cellsOf .i64 (zeros 35)) := ⟨⟨.agg _, by kernel_rfl, rfl, zeros_size _ _⟩⟩
theorem zero_e35 : ZeroTy Tryd.prog 34 560 (cellsOf .u8 (zeros 560)) := ⟨⟨.agg _, by kernel_rfl, rfl, zeros_size _ _⟩⟩
theorem zero_sig : ZeroTy Tryd.prog 77 560 (cellsOf .u8 (zeros 560)) := ⟨⟨.agg _, by kernel_rfl, rfl, zeros_size _ _⟩⟩
theorem arr_a16 : ArrTy Tryd.prog 23 := ⟨⟨_, _, 1, Tryd.underlying23, by kernel_rfl⟩⟩
theorem arr_sig : ArrTy Tryd.prog 77 := ⟨⟨_, _, 16, Tryd.underlying77, by kernel_rfl⟩⟩
end Go.Proofs.YtbbdnlcjjcmllaaDoor.Once
namespace Go.Bul
/-- The digits of a digest of 16 bytes. -/
def dig (d : List Nat) (i : Nat) : Nat := if i % 2 = 0 then d.getD (i / 2) 0 / 16 else d.getD (i / 2) 0 % 16
/-- The checksum of the first n digits. -/
def cks (d : List Nat) : Nat → Nat
  | 0 => 0
  | n + 1 => cks d n + (15 - dig d n)
def digits (d : List Nat) (n : Nat) : List Nat := (List.range n).map (dig d)
def split (d : List Nat) : List Nat := digits d 32 ++ [cks d 32 / 256, cks d 32 / 16 % 16, cks d 32 % 16]
theorem digits_length (d : List Nat) (n : Nat) : (digits d n).length = n := by simp [digits]
theorem digits_succ (d : List Nat) (n : Nat) : digits d (n + 1) = digits d n ++ [dig d n] := by simp [digits, List.range_succ]
theorem digits_getD (d : List Nat) (n i : Nat) (h : i < n) : (digits d n).getD i 0 = dig d i := by simp [digits, List.getD, h]
theorem getD_left (l r : List Nat) (i : Nat) (h : i < l.length) : (l ++ r).getD i 0 = l.getD i 0 := by
  simp only [List.getD, List.getElem?_append_left h]
theorem getD_right (l r : List Nat) (i : Nat) (h : l.length ≤ i) : (l ++ r).getD i 0 = r.getD (i - l.length) 0 := by
  simp only [List.getD, List.getElem?_append_right h]
theorem split_length (d : List Nat) : (split d).length = 35 := by simp [split, digits_length]
theorem dig_le {d : List Nat} (h : Bytes d) (i : Nat) : dig d i ≤ 15 := by
  have := h.getD (i / 2)
  unfold dig; split <;> omega
theorem cks_le (d : List Nat) : ∀ n, cks d n ≤ 15 * n
  | 0 => Nat.le_refl _
  | n + 1 => by have := cks_le d n; simp only [cks]; omega
theorem split_lo (d : List Nat) (i : Nat) (h : i < 32) : (split d).getD i 0 = dig d i := by
  rw [split, getD_left _ _ _ (by rw [digits_length]; exact h), digits_getD _ _ _ h]
theorem split_hi (d : List Nat) : (split d).getD 32 0 = cks d 32 / 256 ∧ (split d).getD 33 0 = cks d 32 / 16 % 16 ∧ (split d).getD 34 0 = cks d 32 % 16 := by
  refine ⟨?_, ?_, ?_⟩ <;> (rw [split, getD_right _ _ _ (by rw [digits_length]; omega), digits_length]; rfl)
theorem split_le {d : List Nat} (h : Bytes d) (i : Nat) : (split d).getD i 0 ≤ 15 := by
  have h1 := cks_le d 32
  have h2 := split_hi d
  by_cases h0 : i < 32
  · rw [split_lo d i h0]; exact dig_le h i
  · rcases (show i = 32 ∨ i = 33 ∨ i = 34 ∨ 35 ≤ i by omega) with rfl | rfl | rfl | h3
    · omega
    · omega
    · omega
    · rw [List.getD_eq_getElem?_getD, List.getElem?_eq_none (by rw [split_length]; exact h3)]; simp
/-- Digits that are nowhere lower have no higher checksum; one that differs, a lower one. -/
theorem cks_mono {a b : List Nat} (hb : Bytes b) : ∀ n, (∀ i, i < n → dig a i ≤ dig b i) → cks b n ≤ cks a n ∧ ((∃ i, i < n ∧ dig a i ≠ dig b i) → cks b n < cks a n)
  | 0, _ => ⟨Nat.le_refl _, fun ⟨i, h, _⟩ => absurd h (by omega)⟩
  | n + 1, h => by
    obtain ⟨h1, h2⟩ := cks_mono hb n (fun i hi => h i (by omega))
    have h3 := h n (by omega)
    have h4 := dig_le hb n
    simp only [cks]
    refine ⟨by omega, fun ⟨i, hi, hne⟩ => ?_⟩
    rcases (show i < n ∨ i = n by omega) with hi | rfl
    · have := h2 ⟨i, hi, hne⟩
      omega
    · omega
theorem dig_inj {a b : List Nat} (ha : a.length = 16) (hb : b.length = 16) (h : ∀ i, i < 32 → dig a i = dig b i) : a = b := by
  refine List.ext_getElem (by rw [ha, hb]) (fun i h1 h2 => ?_)
  have e1 := h (2 * i) (by omega)
  have e2 := h (2 * i + 1) (by omega)
  simp only [dig, show 2 * i % 2 = 0 by omega, show (2 * i + 1) % 2 = 1 by omega, show 2 * i / 2 = i by omega, show (2 * i + 1) / 2 = i by omega, if_true, Nat.one_ne_zero, if_false] at e1 e2
  simp only [List.getD, List.getElem?_eq_getElem h1, List.getElem?_eq_getElem h2, Option.getD_some] at e1 e2
  omega
/-- Of two different digests each has a digit that is lower than the other's. -/
theorem some_lower {a b : List Nat} (ha : a.length = 16) (hb : b.length = 16) (hB : Bytes b) (hne : a ≠ b) : ∃ i, i < 35 ∧ (split b).getD i 0 < (split a).getD i 0 := by
  refine Classical.byContradiction fun hno => ?_
  have hall : ∀ i, i < 35 → (split a).getD i 0 ≤ (split b).getD i 0 := fun i hi => Nat.le_of_not_lt fun h => hno ⟨i, hi, h⟩
  have hd : ∀ i, i < 32 → dig a i ≤ dig b i := fun i hi => by
    have := hall i (by omega)
    rwa [split_lo a i hi, split_lo b i hi] at this
  have hex : ∃ i, i < 32 ∧ dig a i ≠ dig b i := Classical.byContradiction fun h => hne (dig_inj ha hb fun i hi => Classical.byContradiction fun h' => h ⟨i, hi, h'⟩)
  have h1 := (cks_mono hB 32 hd).2 hex
  have h32 := hall 32 (by omega)
  have h33 := hall 33 (by omega)
  have h34 := hall 34 (by omega)
  obtain ⟨a2, a3, a4⟩ := split_hi a
  obtain ⟨b2, b3, b4⟩ := split_hi b
  omega
/-- The first chain whose digit is lower in b. -/
def lower (a b : List Nat) (n : Nat) : Option Nat := (List.range n).find? fun i => decide ((split b).getD i 0 < (split a).getD i 0)
theorem lower_succ (a b : List Nat) (n : Nat) : lower a b (n + 1) = (lower a b n).or (if (split b).getD n 0 < (split a).getD n 0 then some n else none) := by
  simp only [lower, List.range_succ, List.find?_append]
  congr 1
  by_cases h : (split b).getD n 0 < (split a).getD n 0
  · rw [if_pos h, List.find?_cons_of_pos (by simpa using h)]
  · rw [if_neg h, List.find?_cons_of_neg (by simpa using h)]
    rfl
theorem lower_none_iff (a b : List Nat) (n : Nat) : lower a b n = none ↔ ∀ i, i < n → ¬ (split b).getD i 0 < (split a).getD i 0 := by
  simp [lower, List.find?_eq_none]
theorem lower_some {a b : List Nat} {n i : Nat} (h : lower a b n = some i) : i < n ∧ (split b).getD i 0 < (split a).getD i 0 := by
  have h1 := List.find?_some h
  have h2 := List.mem_of_find?_eq_some h
  exact ⟨by simpa using h2, by simpa using h1⟩
theorem lower_ne {a b : List Nat} (ha : a.length = 16) (hb : b.length = 16) (hB : Bytes b) (hne : a ≠ b) : ∃ i, lower a b 35 = some i := by
  cases h : lower a b 35 with
  | some i => exact ⟨i, rfl⟩
  | none =>
    obtain ⟨i, hi, hlt⟩ := some_lower ha hb hB hne
    exact absurd hlt ((lower_none_iff a b 35).1 h i hi)

/-! ### Chains -/
def headb (t leaf : Nat) : List Nat := [t, leaf / 16777216 % 256, leaf / 65536 % 256, leaf / 256 % 256, leaf % 256]
def firstV (seed : List Nat) (leaf chain : Nat) : List Nat := half (headb 2 leaf ++ chain :: seed)
def stepV (leaf chain s : Nat) (v : List Nat) : List Nat := half (headb 3 leaf ++ chain :: s :: v)
def advV (leaf chain : Nat) : Nat → Nat → List Nat → List Nat
  | _, 0, v => v
  | s, n + 1, v => advV leaf chain (s + 1) n (stepV leaf chain s v)
theorem advV_add (leaf chain : Nat) : ∀ (n s m : Nat) (v : List Nat), advV leaf chain (s + n) m (advV leaf chain s n v) = advV leaf chain s (n + m) v
  | 0, s, m, v => by simp [advV]
  | n + 1, s, m, v => by
    rw [advV, show s + (n + 1) = s + 1 + n by omega, advV_add leaf chain n (s + 1) m, show n + 1 + m = n + m + 1 by omega, advV]
theorem advV_succ (leaf chain s n : Nat) (v : List Nat) : advV leaf chain s (n + 1) v = stepV leaf chain (s + n) (advV leaf chain s n v) := by
  rw [← advV_add leaf chain n s 1 v]
  rfl
theorem stepV_length (leaf chain s : Nat) (v : List Nat) : (stepV leaf chain s v).length = 16 := half_length _
theorem firstV_length (seed : List Nat) (leaf chain : Nat) : (firstV seed leaf chain).length = 16 := half_length _
theorem advV_length {leaf chain : Nat} : ∀ (n s : Nat) {v : List Nat}, v.length = 16 → (advV leaf chain s n v).length = 16
  | 0, _, _, h => h
  | n + 1, s, _, _ => advV_length n (s + 1) (stepV_length leaf chain s _)
theorem bytes_headb {t leaf : Nat} (h : t < 256) : Bytes (headb t leaf) := by
  intro x hx
  simp only [headb, List.mem_cons, List.not_mem_nil, or_false] at hx
  omega
theorem bytes_stepV (leaf chain s : Nat) (v : List Nat) : Bytes (stepV leaf chain s v) := bytes_half _
theorem bytes_firstV (seed : List Nat) (leaf chain : Nat) : Bytes (firstV seed leaf chain) := bytes_half _
theorem bytes_advV {leaf chain : Nat} : ∀ (n s : Nat) {v : List Nat}, Bytes v → Bytes (advV leaf chain s n v)
  | 0, _, _, h => h
  | n + 1, s, _, _ => bytes_advV n (s + 1) (bytes_stepV leaf chain s _)
/-- The public value of ends, laid one after the other. -/
def comp (leaf : Nat) (ends : List Nat) : List Nat := half (headb 4 leaf ++ ends)
/-- The piece of 16 bytes with an index. -/
def piece (E : List Nat) (i : Nat) : List Nat := (E.drop (16 * i)).take 16
/-- n pieces. -/
def pieces (f : Nat → List Nat) (n : Nat) : List Nat := (List.range n).flatMap f
theorem pieces_succ (f : Nat → List Nat) (n : Nat) : pieces f (n + 1) = pieces f n ++ f n := by simp [pieces, List.range_succ]
theorem pieces_length {f : Nat → List Nat} (hf : ∀ i, (f i).length = 16) : ∀ n, (pieces f n).length = 16 * n
  | 0 => rfl
  | n + 1 => by rw [pieces_succ, List.length_append, pieces_length hf n, hf]; omega
theorem piece_length {E : List Nat} {n i : Nat} (h : E.length = 16 * n) (hi : i < n) : (piece E i).length = 16 := by
  rw [piece, List.length_take, List.length_drop, h]; omega
theorem bytes_piece {E : List Nat} (h : Bytes E) (i : Nat) : Bytes (piece E i) := (h.drop _).take _
theorem bytes_pieces {f : Nat → List Nat} (hf : ∀ i, Bytes (f i)) : ∀ n, Bytes (pieces f n)
  | 0 => Bytes.nil
  | n + 1 => by rw [pieces_succ]; exact (bytes_pieces hf n).append (hf n)
theorem piece_pieces {f : Nat → List Nat} (hf : ∀ i, (f i).length = 16) (i : Nat) : ∀ n, i < n → piece (pieces f n) i = f i
  | 0, h => absurd h (by omega)
  | n + 1, h => by
    have hl := pieces_length hf n
    rw [pieces_succ]
    rcases (show i < n ∨ i = n by omega) with h1 | rfl
    · have := piece_pieces hf i n h1
      rw [piece, List.drop_append_of_le_length (by omega), List.take_append_of_le_length (by rw [List.length_drop]; omega)]
      exact this
    · rw [piece, List.drop_append_of_le_length (by omega), List.drop_of_length_le (by omega), List.nil_append, List.take_of_length_le (by rw [hf]; omega)]
theorem pieces_piece {E : List Nat} : ∀ n, E.length = 16 * n → pieces (piece E) n = E := by
  have key : ∀ n, 16 * n ≤ E.length → pieces (piece E) n = E.take (16 * n) := by
    intro n
    induction n with
    | zero => intro _; simp [pieces]
    | succ n ih =>
      intro h
      rw [pieces_succ, ih (by omega), piece, show 16 * (n + 1) = 16 * n + 16 by omega, List.take_add]
  intro n h
  rw [key n (by omega), List.take_of_length_le (by omega)]
theorem pieces_congr {f g : Nat → List Nat} : ∀ n, (∀ i, i < n → f i = g i) → pieces f n = pieces g n
  | 0, _ => rfl
  | n + 1, h => by rw [pieces_succ, pieces_succ, pieces_congr n (fun i hi => h i (by omega)), h n (by omega)]
/-- The values of a signature, of a public key's ends; where a signature leads. -/
def valuesV (seed : List Nat) (leaf : Nat) (steps : Nat → Nat) : List Nat := pieces (fun i => advV leaf i 0 (steps i) (firstV seed leaf i)) 35
def lastV (leaf : Nat) (d E : List Nat) : List Nat := pieces (fun i => advV leaf i ((split d).getD i 0) (15 - (split d).getD i 0) (piece E i)) 35
theorem values_f_length (seed : List Nat) (leaf : Nat) (steps : Nat → Nat) (i : Nat) : (advV leaf i 0 (steps i) (firstV seed leaf i)).length = 16 := advV_length _ _ (firstV_length _ _ _)
theorem valuesV_length (seed : List Nat) (leaf : Nat) (steps : Nat → Nat) : (valuesV seed leaf steps).length = 560 := pieces_length (values_f_length seed leaf steps) 35
/-- A signature leads to the ends of its seed. -/
theorem last_of_values {d : List Nat} (hd : Bytes d) (seed : List Nat) (leaf : Nat) : lastV leaf d (valuesV seed leaf fun i => (split d).getD i 0) = valuesV seed leaf fun _ => 15 := by
  refine pieces_congr 35 fun i hi => ?_
  rw [valuesV, piece_pieces (values_f_length seed leaf _) i 35 hi]
  have h1 := split_le hd i
  have := advV_add leaf i ((split d).getD i 0) 0 (15 - (split d).getD i 0) (firstV seed leaf i)
  rw [Nat.zero_add, show (split d).getD i 0 + (15 - (split d).getD i 0) = 15 by omega] at this
  exact this
end Go.Bul
namespace Go.Proofs.YtbbdnlcjjcmllaaDoor.Once
open Go Go.RowKit Go.Bul Go.Bul.Hp
def leafB (z : Int) : Bool := decide (0 ≤ z ∧ z ≤ 65535)
def chainB (z : Int) : Bool := decide (0 ≤ z ∧ z < 35)
theorem isLeaf_any (z : Int) (w : World) : Calls Tryd.prog 59 #[.int .i64 z] w fun e w' => e = .returned (.bool (leafB z)) ∧ w = w' := by
  go_enter Tryd.func59, Tryd.ntmps59
  rcases (show z < 0 ∨ (0 ≤ z ∧ z ≤ 65535) ∨ 65535 < z by omega) with h | h | h
  · have e1 : leafB z = false := by simp [leafB]; omega
    rw [e1]
    have h2 : decide (0 ≤ z) = false := by simp; omega
    go_wp2_with fail
    go_ret
    exact ⟨rfl, rfl⟩
  · have e1 : leafB z = true := by simp [leafB]; omega
    rw [e1]
    obtain ⟨h2, h3⟩ := h
    go_wp2_with fail
    go_ret
    exact ⟨rfl, rfl⟩
  · have e1 : leafB z = false := by simp [leafB]; omega
    rw [e1]
    have h2 : 0 ≤ z := by omega
    have h3 : decide (z ≤ 65535) = false := by simp; omega
    go_wp2_with fail
    go_ret
    exact ⟨rfl, rfl⟩
theorem isChain_any (z : Int) (w : World) : Calls Tryd.prog 60 #[.int .i64 z] w fun e w' => e = .returned (.bool (chainB z)) ∧ w = w' := by
  go_enter Tryd.func60, Tryd.ntmps60
  rcases (show z < 0 ∨ (0 ≤ z ∧ z < 35) ∨ 35 ≤ z by omega) with h | h | h
  · have e1 : chainB z = false := by simp [chainB]; omega
    rw [e1]
    have h2 : decide (0 ≤ z) = false := by simp; omega
    go_wp2_with fail
    go_ret
    exact ⟨rfl, rfl⟩
  · have e1 : chainB z = true := by simp [chainB]; omega
    rw [e1]
    obtain ⟨h2, h3⟩ := h
    go_wp2_with fail
    go_ret
    exact ⟨rfl, rfl⟩
  · have e1 : chainB z = false := by simp [chainB]; omega
    rw [e1]
    have h2 : 0 ≤ z := by omega
    have h3 : decide (z < 35) = false := by simp; omega
    go_wp2_with fail
    go_ret
    exact ⟨rfl, rfl⟩
theorem hash_any (bs : List Nat) (A : Option Addr) (n c : Nat) (ok : Nat → Prop) (w : World) (hr : Rd w ok A n bs) (hn : n ≤ c) (hl : n ≤ 1099511627776) (hT : Tab w) :
    Calls Tryd.prog 62 #[.slice A n c] w fun e w' => e = .returned (.agg (cellsOf .u8 (half bs))) ∧ Below w.heap.size w w' := by
  have hM := Mem.start [] w
  have HR := Lib.hid hr
  have HT := Lib.hid hT
  have hb0 := Below.refl w.heap.size w
  clear hr hT
  go_enter Tryd.func62, Tryd.ntmps62
  go_wp2_with (first | ((with_reducible refine at_load_g ?_ ?_); (· rfl); first | (refine wpList_mem_load hM rfl _ _ (by rfl) _ (by rfl) _ _ _ (by repeat (first | exact List.Mem.head _ | apply List.Mem.tail)) (by first | exact row_a16 | exact row_i35 | exact row_val | exact row_a32 | exact row_e35 | exact row_v35 | exact row_sig | exact row_evi | exact row_half | exact row_dig | exact row_i2 | exact row_i3 | exact row_b3 | exact row_h2 | exact row_pair) ?_) | (refine wpList_mem_num hM rfl _ _ (by rfl) _ _ (by rfl) _ _ _ _ (by repeat (first | exact List.Mem.head _ | apply List.Mem.tail)) (by first | exact one_u8 | exact one_int | exact one_u32 | exact one_bool | exact one_errno | exact one_u16 | exact one_sl) (by omega) ?_)) | ((with_reducible refine at_load ?_); first | (refine wpList_mem_load hM rfl _ _ (by rfl) _ (by rfl) _ _ _ (by repeat (first | exact List.Mem.head _ | apply List.Mem.tail)) (by first | exact row_a16 | exact row_i35 | exact row_val | exact row_a32 | exact row_e35 | exact row_v35 | exact row_sig | exact row_evi | exact row_half | exact row_dig | exact row_i2 | exact row_i3 | exact row_b3 | exact row_h2 | exact row_pair) ?_) | (refine wpList_mem_num hM rfl _ _ (by rfl) _ _ (by rfl) _ _ _ _ (by repeat (first | exact List.Mem.head _ | apply List.Mem.tail)) (by first | exact one_u8 | exact one_int | exact one_u32 | exact one_bool | exact one_errno | exact one_u16 | exact one_sl) (by omega) ?_)) | ((with_reducible refine at_store ?_); first | (refine wpList_mem_store hM rfl _ _ _ (by rfl) _ (by rfl) _ (by rfl) _ _ _ _ (by repeat (first | exact UpdL.head _ _ _ _ _ | apply UpdL.tail)) (by first | exact row_a16 | exact row_i35 | exact row_val | exact row_a32 | exact row_e35 | exact row_v35 | exact row_sig | exact row_evi | exact row_half | exact row_dig | exact row_i2 | exact row_i3 | exact row_b3 | exact row_h2 | exact row_pair) (by first | assumption | (simp; done) | (simp only [cellsOf_size]; first | assumption | exact half_length _ | exact split_length _ | exact firstV_length _ _ _ | exact stepV_length _ _ _ _ | exact valuesV_length _ _ _) | (simp [*]; done)) (by first | exact vals_one _ _ | exact evc_one | (simp [Value.oneCell']; done)) rfl ?_; clear hM; intro wx hM) | (refine wpList_mem_setnum hM rfl _ _ _ (by rfl) _ _ (by rfl) _ _ (by rfl) _ _ _ _ (by repeat (first | exact UpdL.head _ _ _ _ _ | apply UpdL.tail)) (by first | exact one_u8 | exact one_int | exact one_u32 | exact one_bool | exact one_errno | exact one_u16 | exact one_sl) (by omega) _ (by first | rfl | exact (Int.toNat_of_nonneg (by omega)).symm) rfl ?_; clear hM; intro wx hM)) | ((with_reducible refine at_alloc ?_); refine wpList_mem_zero hM rfl _ (by rfl) _ _ (by first | exact zero_a16 | exact zero_i35 | exact zero_i35' | exact zero_val | exact zero_a32 | exact zero_a32' | exact zero_e35 | exact zero_v35 | exact zero_sig | exact zero_evi | exact zero_half | exact zero_dig | exact zero_int | exact zero_u8 | exact zero_i2 | exact zero_i3 | exact zero_b3 | exact zero_h2 | exact zero_pair) ?_; clear hM; intro gx wx hM) | ((with_reducible refine at_box ?_); refine wpList_mem_box hM rfl _ _ (by rfl) _ (by rfl) _ (by first | exact row_a16 | exact row_i35 | exact row_val | exact row_a32 | exact row_e35 | exact row_v35 | exact row_sig | exact row_evi | exact row_half | exact row_dig | exact row_i2 | exact row_i3 | exact row_b3 | exact row_h2 | exact row_pair) (by first | assumption | (simp; done) | (simp only [cellsOf_size]; first | assumption | exact half_length _ | exact split_length _ | exact firstV_length _ _ _ | exact stepV_length _ _ _ _ | exact valuesV_length _ _ _) | (simp [*]; done)) ?_; clear hM; intro gx wx hM))
  (with_reducible refine (half_any bs A n c ok _ (HR.out.kept hM.below) hn hl (HT.out.keep hM.below)).mono ?_)
  rintro e w1 ⟨rfl, hb1⟩
  replace hM := hM.step hb1
  go_wp2_with (first | ((with_reducible refine at_load_g ?_ ?_); (· rfl); first | (refine wpList_mem_load hM rfl _ _ (by rfl) _ (by rfl) _ _ _ (by repeat (first | exact List.Mem.head _ | apply List.Mem.tail)) (by first | exact row_a16 | exact row_i35 | exact row_val | exact row_a32 | exact row_e35 | exact row_v35 | exact row_sig | exact row_evi | exact row_half | exact row_dig | exact row_i2 | exact row_i3 | exact row_b3 | exact row_h2 | exact row_pair) ?_) | (refine wpList_mem_num hM rfl _ _ (by rfl) _ _ (by rfl) _ _ _ _ (by repeat (first | exact List.Mem.head _ | apply List.Mem.tail)) (by first | exact one_u8 | exact one_int | exact one_u32 | exact one_bool | exact one_errno | exact one_u16 | exact one_sl) (by omega) ?_)) | ((with_reducible refine at_load ?_); first | (refine wpList_mem_load hM rfl _ _ (by rfl) _ (by rfl) _ _ _ (by repeat (first | exact List.Mem.head _ | apply List.Mem.tail)) (by first | exact row_a16 | exact row_i35 | exact row_val | exact row_a32 | exact row_e35 | exact row_v35 | exact row_sig | exact row_evi | exact row_half | exact row_dig | exact row_i2 | exact row_i3 | exact row_b3 | exact row_h2 | exact row_pair) ?_) | (refine wpList_mem_num hM rfl _ _ (by rfl) _ _ (by rfl) _ _ _ _ (by repeat (first | exact List.Mem.head _ | apply List.Mem.tail)) (by first | exact one_u8 | exact one_int | exact one_u32 | exact one_bool | exact one_errno | exact one_u16 | exact one_sl) (by omega) ?_)) | ((with_reducible refine at_store ?_); first | (refine wpList_mem_store hM rfl _ _ _ (by rfl) _ (by rfl) _ (by rfl) _ _ _ _ (by repeat (first | exact UpdL.head _ _ _ _ _ | apply UpdL.tail)) (by first | exact row_a16 | exact row_i35 | exact row_val | exact row_a32 | exact row_e35 | exact row_v35 | exact row_sig | exact row_evi | exact row_half | exact row_dig | exact row_i2 | exact row_i3 | exact row_b3 | exact row_h2 | exact row_pair) (by first | assumption | (simp; done) | (simp only [cellsOf_size]; first | assumption | exact half_length _ | exact split_length _ | exact firstV_length _ _ _ | exact stepV_length _ _ _ _ | exact valuesV_length _ _ _) | (simp [*]; done)) (by first | exact vals_one _ _ | exact evc_one | (simp [Value.oneCell']; done)) rfl ?_; clear hM; intro wx hM) | (refine wpList_mem_setnum hM rfl _ _ _ (by rfl) _ _ (by rfl) _ _ (by rfl) _ _ _ _ (by repeat (first | exact UpdL.head _ _ _ _ _ | apply UpdL.tail)) (by first | exact one_u8 | exact one_int | exact one_u32 | exact one_bool | exact one_errno | exact one_u16 | exact one_sl) (by omega) _ (by first | rfl | exact (Int.toNat_of_nonneg (by omega)).symm) rfl ?_; clear hM; intro wx hM)) | ((with_reducible refine at_alloc ?_); refine wpList_mem_zero hM rfl _ (by rfl) _ _ (by first | exact zero_a16 | exact zero_i35 | exact zero_i35' | exact zero_val | exact zero_a32 | exact zero_a32' | exact zero_e35 | exact zero_v35 | exact zero_sig | exact zero_evi | exact zero_half | exact zero_dig | exact zero_int | exact zero_u8 | exact zero_i2 | exact zero_i3 | exact zero_b3 | exact zero_h2 | exact zero_pair) ?_; clear hM; intro gx wx hM) | ((with_reducible refine at_box ?_); refine wpList_mem_box hM rfl _ _ (by rfl) _ (by rfl) _ (by first | exact row_a16 | exact row_i35 | exact row_val | exact row_a32 | exact row_e35 | exact row_v35 | exact row_sig | exact row_evi | exact row_half | exact row_dig | exact row_i2 | exact row_i3 | exact row_b3 | exact row_h2 | exact row_pair) (by first | assumption | (simp; done) | (simp only [cellsOf_size]; first | assumption | exact half_length _ | exact split_length _ | exact firstV_length _ _ _ | exact stepV_length _ _ _ _ | exact valuesV_length _ _ _) | (simp [*]; done)) ?_; clear hM; intro gx wx hM))
  exact bodyPost_ret (results_mem_cell hM rfl (by rfl) (by repeat (first | exact List.Mem.head _ | apply List.Mem.tail)) (by first | exact row_a16 | exact row_i35 | exact row_val | exact row_a32 | exact row_e35 | exact row_v35 | exact row_sig | exact row_evi | exact row_half | exact row_dig | exact row_i2 | exact row_i3 | exact row_b3 | exact row_h2 | exact row_pair)) rfl ⟨rfl, hM.below⟩

/-- What input returns: a row of the call's own. -/
theorem input_any (f : Nat) (leaf : Nat) (x y : Int) (w : World) (hf : f < 256) (hl : leaf ≤ 65535) (hx : x = (f : Int)) (hy : y = (leaf : Int)) :
    Calls Tryd.prog 61 #[.int .u8 x, .int .i64 y] w fun e w' => ∃ v, e = .returned v ∧ Below w.heap.size w w' ∧ OwnB w' w.heap.size v (headb f leaf) := by
  subst hy hx
  have hf' : (f : Int) < 256 := by omega
  go_enter Tryd.func61, Tryd.ntmps61
  go_wp2_with fail
  go_ret
  refine ⟨_, rfl, (Below.refl _ _).alloc (Nat.le_refl _) _, ?_⟩
  have hx : (#[Value.int IntKind.u8 (f : Nat), Value.int IntKind.u8 ((leaf : Int) / 16777216), Value.int IntKind.u8 ((leaf : Int) / 65536), Value.int IntKind.u8 ((leaf : Int) / 256), Value.int IntKind.u8 ((leaf : Int) % 256)] : Array Value) = cellsOf .u8 (headb f leaf) := by
    have e1 : (leaf : Int) / 16777216 = ((leaf / 16777216 % 256 : Nat) : Int) := by omega
    have e2 : (leaf : Int) / 65536 = ((leaf / 65536 % 256 : Nat) : Int) := by omega
    have e3 : (leaf : Int) / 256 = ((leaf / 256 % 256 : Nat) : Int) := by omega
    have e4 : (leaf : Int) % 256 = ((leaf % 256 : Nat) : Int) := by omega
    rw [e1, e2, e3, e4]
    rfl
  rw [hx]
  exact OwnB.of_block (g := w.heap.size) (Blk.new w _ _) (Nat.le_refl _) (by unfold maxLen; simp [headb])
theorem headb_length (f leaf : Nat) : (headb f leaf).length = 5 := rfl
theorem Mem.row_new {G : List Nat} {w0 w w' : World} {L : List Ent} {R : List OwnR} {v : Value} {xs : List Nat} (h : Mem G w0 L R w) (hb : Below w.heap.size w w') (ho : OwnB w' w.heap.size v xs) : Mem G w0 L (brow v xs :: R) w' := h.newRow hb ho
end Go.Proofs.YtbbdnlcjjcmllaaDoor.Once
