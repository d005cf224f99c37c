/- A heap predicate: blocks that are known whole, and things that own blocks of their own; their addresses stay names. -/
import Derived.Test.YtpjphjokhccdaaaGreatOps
import Derived.Deep.AppendSrc
namespace Go.Thg
open Go Go.RowKit Go.Bul
/-- A block: its number, type, size, cells. -/
structure Ent where
  g : Nat
  t : TypeId
  n : Nat
  cs : Array Value
/-- Something that holds of a world by the blocks of a footprint alone. -/
structure Thing where
  fp : List Nat
  P : World → Prop
  keep : ∀ w w' : World, (∀ g ∈ fp, w'.heap[g]? = w.heap[g]?) → P w → P w'
  lt : ∀ w, P w → ∀ g ∈ fp, g < w.heap.size
  nd : ∀ w, P w → fp.Nodup
/-- All that lay before is as it was, but for the blocks of G. -/
structure KeptBut (G : List Nat) (w w' : World) : Prop where
  os : w'.os = w.os
  tape : w'.tape = w.tape
  output : w'.output = w.output
  size : w.heap.size ≤ w'.heap.size
  block : ∀ k, k < w.heap.size → k ∉ G → w'.heap[k]? = w.heap[k]?
section
variable {G : List Nat} {a b c w w' : World}
theorem KeptBut.refl (G : List Nat) (w : World) : KeptBut G w w := ⟨rfl, rfl, rfl, Nat.le_refl _, fun _ _ _ => rfl⟩
theorem KeptBut.trans (h : KeptBut G a b) (k : KeptBut G b c) : KeptBut G a c :=
  ⟨k.os.trans h.os, k.tape.trans h.tape, k.output.trans h.output, Nat.le_trans h.size k.size, fun i hi hn => (k.block i (Nat.lt_of_lt_of_le hi h.size) hn).trans (h.block i hi hn)⟩
theorem KeptBut.of_below (h : Below w.heap.size w w') : KeptBut G w w' := ⟨h.os, h.tape, h.output, h.size, fun i hi _ => h.block i hi⟩
theorem KeptBut.below (h : KeptBut [] w w') : Below w.heap.size w w' := ⟨h.os, h.tape, h.output, h.size, fun i hi => h.block i hi (by simp)⟩
theorem KeptBut.mono {G' : List Nat} (h : KeptBut G w w') (hs : ∀ g ∈ G, g < w.heap.size → g ∈ G') : KeptBut G' w w' := ⟨h.os, h.tape, h.output, h.size, fun i hi hn => h.block i hi fun hg => hn (hs i hg hi)⟩
theorem KeptBut.only {g : Nat} (h : Only g w w') : KeptBut [g] w w' := ⟨h.os, h.tape, h.output, h.size, fun i hi hn => h.block i hi (by rintro ⟨⟩; simp at hn)⟩
/-- What turned later was new, or lay in G. -/
theorem KeptBut.then {G' : List Nat} (h : KeptBut G a w) (k : KeptBut G' w w') (hs : ∀ g ∈ G', a.heap.size ≤ g ∨ g ∈ G) : KeptBut G a w' :=
  ⟨k.os.trans h.os, k.tape.trans h.tape, k.output.trans h.output, Nat.le_trans h.size k.size, fun i hi hn => (k.block i (Nat.lt_of_lt_of_le hi h.size) fun hg => (hs i hg).elim (fun h1 => by omega) hn).trans (h.block i hi hn)⟩
end
def foot (L : List Ent) (R : List Thing) : List Nat := L.map (·.g) ++ R.flatMap (·.fp)
structure Mem (G : List Nat) (w0 : World) (L : List Ent) (R : List Thing) (w : World) : Prop where
  old : KeptBut G w0 w
  blk_ : ∀ b ∈ L, Blk w b.g b.t b.cs ∧ b.cs.size = b.n
  thing : ∀ r ∈ R, r.P w
  own : ∀ g ∈ foot L R, w0.heap.size ≤ g ∨ g ∈ G
  sep : (foot L R).Nodup
/-- A thing turns into another; nothing else that lay before has turned. -/
structure Becomes (fp : List Nat) (w : World) (r : Thing) (w' : World) : Prop where
  holds : r.P w'
  kept : KeptBut fp w w'
  sub : ∀ g ∈ r.fp, g ∈ fp ∨ w.heap.size ≤ g
/-- Where a block stands in a list, and the list with other cells there; the same of things. -/
def UpdL (g : Nat) (t : TypeId) (n : Nat) (cs : Array Value) (L : List Ent) (F : Array Value → List Ent) : Prop := ∃ A B, L = A ++ ⟨g, t, n, cs⟩ :: B ∧ ∀ cs', F cs' = A ++ ⟨g, t, n, cs'⟩ :: B
theorem UpdL.head (g : Nat) (t : TypeId) (n : Nat) (cs : Array Value) (L : List Ent) : UpdL g t n cs (⟨g, t, n, cs⟩ :: L) (fun cs' => ⟨g, t, n, cs'⟩ :: L) := ⟨[], L, rfl, fun _ => rfl⟩
theorem UpdL.tail {g : Nat} {t : TypeId} {n : Nat} {cs : Array Value} {L : List Ent} {F : Array Value → List Ent} (b : Ent) (h : UpdL g t n cs L F) : UpdL g t n cs (b :: L) (fun cs' => b :: F cs') := by
  obtain ⟨A, B, rfl, h2⟩ := h
  exact ⟨b :: A, B, rfl, fun cs' => by show _ :: _ = _; rw [h2]; rfl⟩
def UpdR (r : Thing) (R : List Thing) (F : Thing → List Thing) : Prop := ∃ A B, R = A ++ r :: B ∧ ∀ r', F r' = A ++ r' :: B
theorem UpdR.head (r : Thing) (R : List Thing) : UpdR r (r :: R) (fun r' => r' :: R) := ⟨[], R, rfl, fun _ => rfl⟩
theorem UpdR.tail {r : Thing} {R : List Thing} {F : Thing → List Thing} (b : Thing) (h : UpdR r R F) : UpdR r (b :: R) (fun r' => b :: F r') := by
  obtain ⟨A, B, rfl, h2⟩ := h
  exact ⟨b :: A, B, rfl, fun cs' => by show _ :: _ = _; rw [h2]; rfl⟩
theorem mem_of_updL {g : Nat} {t : TypeId} {n : Nat} {cs : Array Value} {L : List Ent} {F : Array Value → List Ent} (h : UpdL g t n cs L F) : (⟨g, t, n, cs⟩ : Ent) ∈ L := by obtain ⟨A, B, rfl, _⟩ := h; simp
theorem mem_of_updR {r : Thing} {R : List Thing} {F : Thing → List Thing} (h : UpdR r R F) : r ∈ R := by obtain ⟨A, B, rfl, _⟩ := h; simp
theorem mem_foot {L : List Ent} {R : List Thing} {g : Nat} : g ∈ foot L R ↔ (∃ b ∈ L, b.g = g) ∨ ∃ r ∈ R, g ∈ r.fp := by simp [foot]
theorem Thing.keep_below (r : Thing) {w w' : World} (h : r.P w) (hb : Below w.heap.size w w') : r.P w' := r.keep w w' (fun g hg => hb.block g (r.lt w h g hg)) h
/-- Of a list without twins a part is replaced by what is new. -/
theorem nodup_swap {A X B Y : List Nat} {n : Nat} (h : (A ++ (X ++ B)).Nodup) (hlt : ∀ g ∈ A ++ (X ++ B), g < n) (hY : Y.Nodup) (hs : ∀ g ∈ Y, g ∈ X ∨ n ≤ g) : (A ++ (Y ++ B)).Nodup := by
  rw [List.nodup_append] at h ⊢
  obtain ⟨h1, h2, h3⟩ := h
  rw [List.nodup_append] at h2 ⊢
  obtain ⟨h4, h5, h6⟩ := h2
  refine ⟨h1, ⟨hY, h5, fun g hg k hk => ?_⟩, fun g hg k hk => ?_⟩
  · rcases hs g hg with hx | hx
    · exact h6 g hx k hk
    · have := hlt k (by simp [hk]); omega
  · rcases List.mem_append.1 hk with hk | hk
    · rcases hs k hk with hx | hx
      · exact h3 g hg k (by simp [hx])
      · have := hlt g (by simp [hg]); omega
    · exact h3 g hg k (by simp [hk])
section
variable {G : List Nat} {w0 w w' : World} {L L' : List Ent} {R R' : List Thing}
theorem Mem.start (G : List Nat) (w : World) : Mem G w [] [] w := ⟨KeptBut.refl _ _, by simp, by simp, by simp [foot], by simp [foot]⟩
theorem Mem.enter (r : Thing) {w : World} (h : r.P w) : Mem r.fp w [] [r] w := ⟨KeptBut.refl _ _, by simp, by simpa using h, fun g hg => .inr (by simpa [foot] using hg), by simpa [foot] using r.nd w h⟩
theorem Mem.blk (h : Mem G w0 L R w) {b : Ent} (hb : b ∈ L) : Blk w b.g b.t b.cs := (h.blk_ b hb).1
theorem Mem.size (h : Mem G w0 L R w) {g : Nat} {t : TypeId} {n : Nat} {cs : Array Value} (hb : ⟨g, t, n, cs⟩ ∈ L) : cs.size = n := (h.blk_ _ hb).2
theorem Mem.lt (h : Mem G w0 L R w) {g : Nat} (hg : g ∈ foot L R) : g < w.heap.size := by
  rcases mem_foot.1 hg with ⟨b, hb, rfl⟩ | ⟨r, hr, hg⟩
  · exact (h.blk hb).lt
  · exact r.lt w (h.thing r hr) g hg
theorem Mem.below (h : Mem [] w0 L R w) : Below w0.heap.size w0 w := h.old.below
theorem Mem.le (h : Mem G w0 L R w) : w0.heap.size ≤ w.heap.size := h.old.size
theorem Mem.step (h : Mem G w0 L R w) (hb : Below w.heap.size w w') : Mem G w0 L R w' :=
  ⟨h.old.then (KeptBut.of_below (G := []) hb) (by simp), fun b hL => ⟨(h.blk hL).kept hb, (h.blk_ b hL).2⟩, fun r hr => r.keep_below (h.thing r hr) hb, h.own, h.sep⟩
theorem Mem.drew (h : Mem G w0 L R w) : Mem G w0 L R w.drew := h.step (Below.drew (Below.refl _ _))
theorem Mem.new (h : Mem G w0 L R w) (hb : Below w.heap.size w w') {g : Nat} {t : TypeId} {n : Nat} {cs : Array Value} (hg : w.heap.size ≤ g) (hB : Blk w' g t cs) (hn : cs.size = n) : Mem G w0 (⟨g, t, n, cs⟩ :: L) R w' := by
  have k := h.step hb
  refine ⟨k.old, ?_, k.thing, ?_, ?_⟩
  · intro b hb
    rcases List.mem_cons.1 hb with rfl | hb
    · exact ⟨hB, hn⟩
    · exact k.blk_ b hb
  · intro x hx
    rcases List.mem_cons.1 hx with rfl | hx
    · exact .inl (Nat.le_trans h.le hg)
    · exact k.own x hx
  · refine List.nodup_cons.2 ⟨fun hx => ?_, k.sep⟩
    have h1 := h.lt hx
    simp only at h1
    omega
theorem Mem.alloc (h : Mem G w0 L R w) (cs : Array Value) (t : TypeId) {n : Nat} (hn : cs.size = n) : Mem G w0 (⟨w.heap.size, t, n, cs⟩ :: L) R (w.alloc (.cells cs t)) :=
  h.new ((Below.refl _ _).alloc (Nat.le_refl _) _) (Nat.le_refl _) (Blk.new w _ _) hn
theorem foot_thing (A B : List Thing) (L : List Ent) (r : Thing) : foot L (A ++ r :: B) = (L.map (·.g) ++ A.flatMap (·.fp)) ++ (r.fp ++ B.flatMap (·.fp)) := by simp [foot]
/-- A thing turns. -/
theorem Mem.turn {r r' : Thing} {F : Thing → List Thing} (h : Mem G w0 L R w) (hu : UpdR r R F) (hb : Becomes r.fp w r' w') : Mem G w0 L (F r') w' := by
  obtain ⟨A, B, rfl, hF⟩ := hu
  rw [hF]
  have hsep := h.sep
  rw [foot_thing] at hsep
  have hown := h.own
  have hfar : ∀ g, g ∈ foot L (A ++ r :: B) → g ∉ r.fp → w'.heap[g]? = w.heap[g]? := fun g hg hn => hb.kept.block g (h.lt hg) hn
  refine ⟨h.old.then hb.kept fun g hg => hown g (by rw [foot_thing]; simp [hg]), ?_, ?_, ?_, ?_⟩
  · intro b hL
    refine ⟨(hfar b.g (mem_foot.2 (.inl ⟨b, hL, rfl⟩)) fun hg => ?_).trans (h.blk hL), (h.blk_ b hL).2⟩
    exact (List.nodup_append.1 hsep).2.2 b.g (List.mem_append_left _ (List.mem_map.2 ⟨b, hL, rfl⟩)) b.g (by simp [hg]) rfl
  · intro s hs
    rcases List.mem_append.1 hs with hA | hB
    · refine s.keep w w' (fun g hg => hfar g (mem_foot.2 (.inr ⟨s, by simp [hA], hg⟩)) fun hx => ?_) (h.thing s (by simp [hA]))
      exact (List.nodup_append.1 hsep).2.2 g (List.mem_append_right _ (List.mem_flatMap.2 ⟨s, hA, hg⟩)) g (by simp [hx]) rfl
    · rcases List.mem_cons.1 hB with rfl | hB
      · exact hb.holds
      · refine s.keep w w' (fun g hg => hfar g (mem_foot.2 (.inr ⟨s, by simp [hB], hg⟩)) fun hx => ?_) (h.thing s (by simp [hB]))
        exact (List.nodup_append.1 (List.nodup_append.1 hsep).2.1).2.2 g hx g (List.mem_flatMap.2 ⟨s, hB, hg⟩) rfl
  · intro g hg
    rw [foot_thing] at hg hown
    rcases List.mem_append.1 hg with hg | hg
    · exact hown g (by simp only [List.mem_append]; exact .inl (List.mem_append.1 hg))
    · rcases List.mem_append.1 hg with hg | hg
      · rcases hb.sub g hg with hx | hx
        · exact hown g (by simp [hx])
        · exact .inl (Nat.le_trans h.le hx)
      · exact hown g (by simp only [List.mem_append]; exact .inr (.inr hg))
  · rw [foot_thing]
    refine nodup_swap hsep (fun g hg => h.lt ?_) (r'.nd w' hb.holds) hb.sub
    rw [foot_thing]; exact hg
/-- The cells of one block turn. -/
theorem Mem.put {g : Nat} {t : TypeId} {n : Nat} {cs cs' : Array Value} {F : Array Value → List Ent} (h : Mem G w0 L R w) (hu : UpdL g t n cs L F) (ho : Only g w w') (hB : Blk w' g t cs') (hn : cs'.size = n) : Mem G w0 (F cs') R w' := by
  obtain ⟨A, B, rfl, hF⟩ := hu
  rw [hF]
  have hfoot : ∀ cs', foot (A ++ ⟨g, t, n, cs'⟩ :: B) R = A.map (·.g) ++ ([g] ++ (B.map (·.g) ++ R.flatMap (·.fp))) := fun cs' => by simp [foot]
  have hsep := h.sep
  rw [hfoot] at hsep
  have hown := h.own
  have hlt := h.lt (g := g) (by rw [hfoot]; simp)
  have hfar : ∀ k, k ∈ foot (A ++ ⟨g, t, n, cs⟩ :: B) R → k ≠ g → w'.heap[k]? = w.heap[k]? := fun k hk hn => ho.block k (h.lt hk) (by rintro ⟨⟩; exact hn rfl)
  have hA : g ∉ A.map (·.g) := fun hx => (List.nodup_append.1 hsep).2.2 g hx g (by simp) rfl
  have hC : g ∉ B.map (·.g) ++ R.flatMap (·.fp) := fun hx => (List.nodup_append.1 (List.nodup_append.1 hsep).2.1).2.2 g (by simp) g hx rfl
  refine ⟨h.old.then (KeptBut.only ho) (by rintro k hk; rw [List.mem_singleton.1 hk]; exact hown g (by rw [hfoot]; simp)), ?_, ?_, ?_, ?_⟩
  · intro b hb
    rcases List.mem_append.1 hb with hb | hb
    · exact ⟨(hfar b.g (mem_foot.2 (.inl ⟨b, by simp [hb], rfl⟩)) fun hx => hA (List.mem_map.2 ⟨b, hb, hx⟩)).trans (h.blk (by simp [hb])), (h.blk_ b (by simp [hb])).2⟩
    · rcases List.mem_cons.1 hb with rfl | hb
      · exact ⟨hB, hn⟩
      · exact ⟨(hfar b.g (mem_foot.2 (.inl ⟨b, by simp [hb], rfl⟩)) fun hx => hC (List.mem_append_left _ (List.mem_map.2 ⟨b, hb, hx⟩))).trans (h.blk (by simp [hb])), (h.blk_ b (by simp [hb])).2⟩
  · intro s hs
    refine s.keep w w' (fun k hk => hfar k (mem_foot.2 (.inr ⟨s, hs, hk⟩)) fun hx => hC (List.mem_append_right _ (List.mem_flatMap.2 ⟨s, hs, hx ▸ hk⟩))) (h.thing s hs)
  · rw [hfoot] at hown ⊢; exact hown
  · rw [hfoot]; exact hsep
theorem Mem.setCell {g : Nat} {t : TypeId} {n : Nat} {cs : Array Value} {F : Array Value → List Ent} (h : Mem G w0 L R w) (hu : UpdL g t n cs L F) (i : Nat) (v : Value) : Mem G w0 (F (cs.setIfInBounds i v)) R (w.setCell ⟨g, i, none⟩ v) := by
  have hin := mem_of_updL hu
  exact h.put hu ((Only.refl g w).setCell i v) ((h.blk hin).set i v) (by have := h.size hin; simpa using this)
/-- Some blocks and things are forgotten, or stand elsewhere. -/
theorem Mem.sub (h : Mem G w0 L R w) (hL : ∀ b ∈ L', b ∈ L) (hR : ∀ r ∈ R', r ∈ R) (hs : (foot L' R').Nodup) : Mem G w0 L' R' w :=
  ⟨h.old, fun b hb => h.blk_ b (hL b hb), fun r hr => h.thing r (hR r hr), fun g hg => h.own g (by
    rcases mem_foot.1 hg with ⟨b, hb, rfl⟩ | ⟨r, hr, hg⟩
    · exact mem_foot.2 (.inl ⟨b, hL b hb, rfl⟩)
    · exact mem_foot.2 (.inr ⟨r, hR r hr, hg⟩)), hs⟩
theorem foot_subL (h : L'.Sublist L) : (foot L' R).Sublist (foot L R) := (h.map _).append (List.Sublist.refl _)
theorem flatMap_sub {f : Thing → List Nat} : ∀ {A B : List Thing}, A.Sublist B → (A.flatMap f).Sublist (B.flatMap f)
  | _, _, .slnil => List.Sublist.refl _
  | _, _, .cons b h => by simp only [List.flatMap_cons]; exact (flatMap_sub h).trans (List.sublist_append_right _ _)
  | _, _, .cons_cons _ h => by simp only [List.flatMap_cons]; exact (List.Sublist.refl _).append (flatMap_sub h)
theorem Mem.subL (h : Mem G w0 L R w) (hs : L'.Sublist L) : Mem G w0 L' R w := h.sub (fun _ hb => hs.subset hb) (fun _ h => h) (h.sep.sublist (foot_subL hs))
theorem Mem.subR (h : Mem G w0 L R w) (hs : R'.Sublist R) : Mem G w0 L R' w := h.sub (fun _ h => h) (fun _ hr => hs.subset hr) (h.sep.sublist ((List.Sublist.refl _).append (flatMap_sub hs)))
/-- The same blocks in another order, or otherwise parted among things. -/
theorem Mem.repack (h : Mem G w0 L R w) (hL : ∀ b ∈ L', Blk w b.g b.t b.cs ∧ b.cs.size = b.n) (hR : ∀ r ∈ R', r.P w) (hp : (foot L' R').Perm (foot L R)) : Mem G w0 L' R' w :=
  ⟨h.old, hL, hR, fun g hg => h.own g (hp.mem_iff.1 hg), hp.nodup_iff.2 h.sep⟩
/-- A new thing. -/
theorem Mem.newThing (h : Mem G w0 L R w) {r : Thing} (hb : Becomes [] w r w') : Mem G w0 L (r :: R) w' := by
  have k := h.step hb.kept.below
  have hge : ∀ g ∈ r.fp, w.heap.size ≤ g := fun g hg => by simpa using hb.sub g hg
  have hf : (foot L (r :: R)).Perm (r.fp ++ foot L R) := by
    simp only [foot, List.flatMap_cons]
    rw [← List.append_assoc, ← List.append_assoc]
    exact List.Perm.append_right _ List.perm_append_comm
  refine ⟨k.old, k.blk_, ?_, ?_, ?_⟩
  · intro s hs
    rcases List.mem_cons.1 hs with rfl | hs
    · exact hb.holds
    · exact k.thing s hs
  · intro g hg
    rcases List.mem_append.1 (hf.mem_iff.1 hg) with hg | hg
    · exact .inl (Nat.le_trans h.le (hge g hg))
    · exact h.own g hg
  · refine hf.nodup_iff.2 (List.nodup_append.2 ⟨r.nd w' hb.holds, h.sep, fun g hg k hk => ?_⟩)
    have := hge g hg
    have := h.lt hk
    omega
/-! Names for the blocks of a list. -/
theorem Mem.name1 {g n : Nat} {t : TypeId} {cs : Array Value} (_ : Mem G w0 (⟨g, t, n, cs⟩ :: L) R w) : ∃ x, x = g := ⟨_, rfl⟩
/-- The call ends: what it left of a thing. -/
theorem Mem.becomes {r : Thing} (h : Mem G w0 L R w) (hr : r ∈ R) : Becomes G w0 r w :=
  ⟨h.thing r hr, h.old, fun g hg => (h.own g (mem_foot.2 (.inr ⟨r, hr, hg⟩))).symm⟩
theorem Becomes.fresh {r : Thing} (h : Becomes [] w r w') : Below w.heap.size w w' := h.kept.below
end
end Go.Thg
