/- Contracts of sha256.Sum, SumHalf. A heap predicate: blocks that are known whole, and things that own blocks of their own; their addresses stay names. Slices that own what lies behind them, wherever they begin in their block; groups of things. -/
import Derived.Test.YtbbdnlcjjcmllaaDoorVe
import Derived.Laws.Cover3
import Derived.Test.YtbbdnlcjjcmllaaDoorVc
import Derived.Deep.AppendSrc
import Derived.Deep.Upon
namespace Go.Proofs.YtbbdnlcjjcmllaaDoor
open Go Go.RowKit Go.Bul
theorem Tab.lt {w : World} (h : Tab w) : 1 < w.heap.size := by
  rcases Nat.lt_or_ge 1 w.heap.size with h' | h'
  · exact h'
  · have h0 := h 0 (by omega)
    simp [World.cell?, Array.getElem?_eq_none h'] at h0
theorem sum_any (bs : List Nat) (A : Option Addr) (n c : Nat) (ok : Nat → Prop) (w : World) (hr : Rd w ok A n bs) (hn : n ≤ c) (hl : n ≤ 1099511627776) (hT : Tab w) :
    Calls Tryd.prog 68 #[.slice A n c] w fun e w' => e = .returned (.agg (cellsOf .u8 (sha bs))) ∧ Below w.heap.size w w' := by
  have hw := hT.lt
  have HR := Lib.hid hr
  have HT := Lib.hid hT
  clear hr hT
  go_enter Tryd.func68, Tryd.ntmps68
  go_wp2_with (first
    | (with_reducible refine wpList_alloc_zero rfl 128 rfl _ zero_dig ?_))
  (with_reducible refine (new_any _).mono ?_)
  rintro e w1 ⟨rfl, hh1, hb1⟩
  have hsz1 := hb1.size
  rw [World.size_alloc] at hh1
  rw [World.size_alloc] at hsz1
  have k1 : Below w.heap.size w w1 := Below.trans ((Below.refl _ _).alloc (Nat.le_refl _) _) (hb1.mono (by simp))
  have r1 : Rd w1 (· ≠ w.heap.size + 1) A n bs := (HR.out.imp (ok' := (· ≠ w.heap.size + 1)) (fun b hb _ => by omega)).kept k1
  have d1 : Blk w1 w.heap.size 128 (cellsOf .u8 (List.replicate 32 0)) := (Blk.new w _ _).kept hb1
  go_wp2_with fail
  (with_reducible refine (write_any (w.heap.size + 1) [] bs A n c w1 hh1 r1 hn (by simp; omega) (HT.out.keep k1) (by omega)).mono ?_)
  rintro e w2 ⟨rfl, hh2, ho2⟩
  rw [List.nil_append] at hh2
  have hsz2 := ho2.size
  have k2 : Below w.heap.size w w2 := k1.trans (ho2.to_below' (by omega) (by omega))
  have d2 : Blk w2 w.heap.size 128 (cellsOf .u8 (List.replicate 32 0)) := d1.only ho2 (by omega)
  go_wp2_with fail
  (with_reducible refine (sumh_any (w.heap.size + 1) bs w2 hh2 (by rw [HR.out.len]; exact hl) (HT.out.keep k2)).mono ?_)
  rintro e w3 ⟨rfl, hb3⟩
  have d3 := d2.kept hb3
  have k3 : Below w.heap.size w w3 := Below.step k2 hb3
  go_wp2_with (first
    | (refine wpList_store_blk rfl 128 (.tmp 2) (.tmp 9) rfl w.heap.size rfl (cellsOf .u8 (sha bs)) rfl 128 (cellsOf .u8 (List.replicate 32 0)) 32 d3 size_dig (by simp [sha_length]) (by simp) (vals_one _ _) rfl ?_; intro w5 hw5; have HW5 := Lib.hid hw5; clear hw5))
  exact bodyPost_ret (results_cell_row rfl _ _ w.heap.size _ _ _ _ rfl (by rw [HW5.out]; exact d3.row _) Tryd.underlying128 rfl (by rw [size_dig]; simp [sha_length])) rfl ⟨rfl, by rw [HW5.out]; exact below_setRow k3 (Nat.le_refl _) _⟩
theorem zero_half : (Tryd.prog.info? 113).map (·.zero) = some (some (.agg (cellsOf .u8 (List.replicate 16 0)))) := by kernel_rfl
theorem size_half : (Tryd.prog.info? 113).map (·.size) = some 16 := by kernel_rfl
theorem half_any (bs : List Nat) (A : Option Addr) (n c : Nat) (ok : Nat → Prop) (w : World) (hr : Rd w ok A n bs) (hn : n ≤ c) (hl : n ≤ 1099511627776) (hT : Tab w) :
    Calls Tryd.prog 55 #[.slice A n c] w fun e w' => e = .returned (.agg (cellsOf .u8 (half bs))) ∧ Below w.heap.size w w' := by
  have hw := hT.lt
  have HR := Lib.hid hr
  have HT := Lib.hid hT
  clear hr hT
  go_enter Tryd.func55, Tryd.ntmps55
  go_wp2_with (first
    | (with_reducible refine wpList_alloc_zero rfl 113 rfl _ zero_half ?_))
  (with_reducible refine (sum_any bs A n c ok _ (HR.out.kept ((Below.refl _ _).alloc (Nat.le_refl _) _)) hn hl (HT.out.keep ((Below.refl _ _).alloc (Nat.le_refl _) _))).mono ?_)
  rintro e w1 ⟨rfl, hb1⟩
  have hsz1 := hb1.size
  rw [World.size_alloc] at hsz1
  have k1 : Below w.heap.size w w1 := Below.trans ((Below.refl _ _).alloc (Nat.le_refl _) _) (hb1.mono (by simp))
  have d1 : Blk w1 w.heap.size 113 (cellsOf .u8 (List.replicate 16 0)) := (Blk.new w _ _).kept hb1
  have ha := fun W => run_arrayAt (P := Tryd.prog) W 113 5 16 (some ⟨w1.heap.size, 0, none⟩) 16 32 Tryd.underlying113 (by omega)
  go_wp2_with (first
    | (with_reducible refine wpList_alloc_zero rfl 128 rfl _ zero_dig ?_)
    | (refine wpList_load_part rfl 113 (.tmp 7) rfl w1.heap.size 0 rfl 128 (cellsOf .u8 (sha bs)) 16 _ (by rw [HW2.out]; exact (Blk.new w1 _ _).row _) Tryd.underlying113 rfl size_half (by simp [sha_length]) (cellsOf .u8 (half bs)) (by simp [cellsOf, vals, half]) ?_)
    | (refine wpList_store_blk rfl 113 (.tmp 2) (.tmp 8) rfl w.heap.size rfl (cellsOf .u8 (half bs)) rfl 113 (cellsOf .u8 (List.replicate 16 0)) 16 (by rw [HW2.out]; exact (d1.alloc _).rowFar (by omega) _) size_half (by simp [half_length]) (by simp) (vals_one _ _) rfl ?_; intro w5 hw5; have HW5 := Lib.hid hw5; clear hw5)
    | (refine wpList_store_blk rfl 128 (.tmp 3) (.tmp 5) rfl w1.heap.size rfl (cellsOf .u8 (sha bs)) rfl 128 (cellsOf .u8 (List.replicate 32 0)) 32 (Blk.new w1 _ _) size_dig (by simp [sha_length]) (by simp) (vals_one _ _) rfl ?_; intro w2 hw2; have HW2 := Lib.hid hw2; clear hw2))
  have d2 : Blk w2 w.heap.size 113 (cellsOf .u8 (List.replicate 16 0)) := by rw [HW2.out]; exact (d1.alloc _).rowFar (by omega) _
  have k2 : Below w.heap.size w w2 := by rw [HW2.out]; exact below_setRow (k1.alloc (by omega) _) (by omega) _
  exact bodyPost_ret (results_cell_row rfl _ _ w.heap.size _ _ _ _ rfl (by rw [HW5.out]; exact d2.row _) Tryd.underlying113 rfl (by rw [size_half]; simp [half_length])) rfl ⟨rfl, by rw [HW5.out]; exact below_setRow k2 (Nat.le_refl _) _⟩
end Go.Proofs.YtbbdnlcjjcmllaaDoor
namespace Go.Thg
open Go Go.RowKit Go.Bul
/-- A block: its number, type, size, cells. -/
structure Ent where
  g : Nat
  t : TypeId
  n : Nat
  cs : Array Value
/-- Something that holds of a world by the blocks of a footprint alone. -/
structure Thing where
  fp : List Nat
  P : World → Prop
  keep : ∀ w w' : World, (∀ g ∈ fp, w'.heap[g]? = w.heap[g]?) → P w → P w'
  lt : ∀ w, P w → ∀ g ∈ fp, g < w.heap.size
  nd : ∀ w, P w → fp.Nodup
/-- All that lay before is as it was, but for the blocks of G. -/
structure KeptBut (G : List Nat) (w w' : World) : Prop where
  os : w'.os = w.os
  tape : w'.tape = w.tape
  output : w'.output = w.output
  size : w.heap.size ≤ w'.heap.size
  block : ∀ k, k < w.heap.size → k ∉ G → w'.heap[k]? = w.heap[k]?
section
variable {G : List Nat} {a b c w w' : World}
theorem KeptBut.refl (G : List Nat) (w : World) : KeptBut G w w := ⟨rfl, rfl, rfl, Nat.le_refl _, fun _ _ _ => rfl⟩
theorem KeptBut.trans (h : KeptBut G a b) (k : KeptBut G b c) : KeptBut G a c :=
  ⟨k.os.trans h.os, k.tape.trans h.tape, k.output.trans h.output, Nat.le_trans h.size k.size, fun i hi hn => (k.block i (Nat.lt_of_lt_of_le hi h.size) hn).trans (h.block i hi hn)⟩
theorem KeptBut.of_below (h : Below w.heap.size w w') : KeptBut G w w' := ⟨h.os, h.tape, h.output, h.size, fun i hi _ => h.block i hi⟩
theorem KeptBut.below (h : KeptBut [] w w') : Below w.heap.size w w' := ⟨h.os, h.tape, h.output, h.size, fun i hi => h.block i hi (by simp)⟩
theorem KeptBut.mono {G' : List Nat} (h : KeptBut G w w') (hs : ∀ g ∈ G, g < w.heap.size → g ∈ G') : KeptBut G' w w' := ⟨h.os, h.tape, h.output, h.size, fun i hi hn => h.block i hi fun hg => hn (hs i hg hi)⟩
theorem KeptBut.only {g : Nat} (h : Only g w w') : KeptBut [g] w w' := ⟨h.os, h.tape, h.output, h.size, fun i hi hn => h.block i hi (by rintro ⟨⟩; simp at hn)⟩
/-- What turned later was new, or lay in G. -/
theorem KeptBut.then {G' : List Nat} (h : KeptBut G a w) (k : KeptBut G' w w') (hs : ∀ g ∈ G', a.heap.size ≤ g ∨ g ∈ G) : KeptBut G a w' :=
  ⟨k.os.trans h.os, k.tape.trans h.tape, k.output.trans h.output, Nat.le_trans h.size k.size, fun i hi hn => (k.block i (Nat.lt_of_lt_of_le hi h.size) fun hg => (hs i hg).elim (fun h1 => by omega) hn).trans (h.block i hi hn)⟩
end
def foot (L : List Ent) (R : List Thing) : List Nat := L.map (·.g) ++ R.flatMap (·.fp)
structure Mem (G : List Nat) (w0 : World) (L : List Ent) (R : List Thing) (w : World) : Prop where
  old : KeptBut G w0 w
  blk_ : ∀ b ∈ L, Blk w b.g b.t b.cs ∧ b.cs.size = b.n
  thing : ∀ r ∈ R, r.P w
  own : ∀ g ∈ foot L R, w0.heap.size ≤ g ∨ g ∈ G
  sep : (foot L R).Nodup
/-- A thing turns into another; nothing else that lay before has turned. -/
structure Becomes (fp : List Nat) (w : World) (r : Thing) (w' : World) : Prop where
  holds : r.P w'
  kept : KeptBut fp w w'
  sub : ∀ g ∈ r.fp, g ∈ fp ∨ w.heap.size ≤ g
/-- Where a block stands in a list, and the list with other cells there; the same of things. -/
def UpdL (g : Nat) (t : TypeId) (n : Nat) (cs : Array Value) (L : List Ent) (F : Array Value → List Ent) : Prop := ∃ A B, L = A ++ ⟨g, t, n, cs⟩ :: B ∧ ∀ cs', F cs' = A ++ ⟨g, t, n, cs'⟩ :: B
theorem UpdL.head (g : Nat) (t : TypeId) (n : Nat) (cs : Array Value) (L : List Ent) : UpdL g t n cs (⟨g, t, n, cs⟩ :: L) (fun cs' => ⟨g, t, n, cs'⟩ :: L) := ⟨[], L, rfl, fun _ => rfl⟩
theorem UpdL.tail {g : Nat} {t : TypeId} {n : Nat} {cs : Array Value} {L : List Ent} {F : Array Value → List Ent} (b : Ent) (h : UpdL g t n cs L F) : UpdL g t n cs (b :: L) (fun cs' => b :: F cs') := by
  obtain ⟨A, B, rfl, h2⟩ := h
  exact ⟨b :: A, B, rfl, fun cs' => by show _ :: _ = _; rw [h2]; rfl⟩
def UpdR (r : Thing) (R : List Thing) (F : Thing → List Thing) : Prop := ∃ A B, R = A ++ r :: B ∧ ∀ r', F r' = A ++ r' :: B
theorem UpdR.head (r : Thing) (R : List Thing) : UpdR r (r :: R) (fun r' => r' :: R) := ⟨[], R, rfl, fun _ => rfl⟩
theorem UpdR.tail {r : Thing} {R : List Thing} {F : Thing → List Thing} (b : Thing) (h : UpdR r R F) : UpdR r (b :: R) (fun r' => b :: F r') := by
  obtain ⟨A, B, rfl, h2⟩ := h
  exact ⟨b :: A, B, rfl, fun cs' => by show _ :: _ = _; rw [h2]; rfl⟩
theorem mem_of_updL {g : Nat} {t : TypeId} {n : Nat} {cs : Array Value} {L : List Ent} {F : Array Value → List Ent} (h : UpdL g t n cs L F) : (⟨g, t, n, cs⟩ : Ent) ∈ L := by obtain ⟨A, B, rfl, _⟩ := h; simp
theorem mem_of_updR {r : Thing} {R : List Thing} {F : Thing → List Thing} (h : UpdR r R F) : r ∈ R := by obtain ⟨A, B, rfl, _⟩ := h; simp
theorem mem_foot {L : List Ent} {R : List Thing} {g : Nat} : g ∈ foot L R ↔ (∃ b ∈ L, b.g = g) ∨ ∃ r ∈ R, g ∈ r.fp := by simp [foot]
theorem Thing.keep_below (r : Thing) {w w' : World} (h : r.P w) (hb : Below w.heap.size w w') : r.P w' := r.keep w w' (fun g hg => hb.block g (r.lt w h g hg)) h
/-- Of a list without twins a part is replaced by what is new. -/
theorem nodup_swap {A X B Y : List Nat} {n : Nat} (h : (A ++ (X ++ B)).Nodup) (hlt : ∀ g ∈ A ++ (X ++ B), g < n) (hY : Y.Nodup) (hs : ∀ g ∈ Y, g ∈ X ∨ n ≤ g) : (A ++ (Y ++ B)).Nodup := by
  rw [List.nodup_append] at h ⊢
  obtain ⟨h1, h2, h3⟩ := h
  rw [List.nodup_append] at h2 ⊢
  obtain ⟨h4, h5, h6⟩ := h2
  refine ⟨h1, ⟨hY, h5, fun g hg k hk => ?_⟩, fun g hg k hk => ?_⟩
  · rcases hs g hg with hx | hx
    · exact h6 g hx k hk
    · have := hlt k (by simp [hk]); omega
  · rcases List.mem_append.1 hk with hk | hk
    · rcases hs k hk with hx | hx
      · exact h3 g hg k (by simp [hx])
      · have := hlt g (by simp [hg]); omega
    · exact h3 g hg k (by simp [hk])
section
variable {G : List Nat} {w0 w w' : World} {L L' : List Ent} {R R' : List Thing}
theorem Mem.start (G : List Nat) (w : World) : Mem G w [] [] w := ⟨KeptBut.refl _ _, by simp, by simp, by simp [foot], by simp [foot]⟩
theorem Mem.enter (r : Thing) {w : World} (h : r.P w) : Mem r.fp w [] [r] w := ⟨KeptBut.refl _ _, by simp, by simpa using h, fun g hg => .inr (by simpa [foot] using hg), by simpa [foot] using r.nd w h⟩
theorem Mem.blk (h : Mem G w0 L R w) {b : Ent} (hb : b ∈ L) : Blk w b.g b.t b.cs := (h.blk_ b hb).1
theorem Mem.size (h : Mem G w0 L R w) {g : Nat} {t : TypeId} {n : Nat} {cs : Array Value} (hb : ⟨g, t, n, cs⟩ ∈ L) : cs.size = n := (h.blk_ _ hb).2
theorem Mem.lt (h : Mem G w0 L R w) {g : Nat} (hg : g ∈ foot L R) : g < w.heap.size := by
  rcases mem_foot.1 hg with ⟨b, hb, rfl⟩ | ⟨r, hr, hg⟩
  · exact (h.blk hb).lt
  · exact r.lt w (h.thing r hr) g hg
theorem Mem.below (h : Mem [] w0 L R w) : Below w0.heap.size w0 w := h.old.below
theorem Mem.le (h : Mem G w0 L R w) : w0.heap.size ≤ w.heap.size := h.old.size
theorem Mem.step (h : Mem G w0 L R w) (hb : Below w.heap.size w w') : Mem G w0 L R w' :=
  ⟨h.old.then (KeptBut.of_below (G := []) hb) (by simp), fun b hL => ⟨(h.blk hL).kept hb, (h.blk_ b hL).2⟩, fun r hr => r.keep_below (h.thing r hr) hb, h.own, h.sep⟩
theorem Mem.drew (h : Mem G w0 L R w) : Mem G w0 L R w.drew := h.step (Below.drew (Below.refl _ _))
theorem Mem.new (h : Mem G w0 L R w) (hb : Below w.heap.size w w') {g : Nat} {t : TypeId} {n : Nat} {cs : Array Value} (hg : w.heap.size ≤ g) (hB : Blk w' g t cs) (hn : cs.size = n) : Mem G w0 (⟨g, t, n, cs⟩ :: L) R w' := by
  have k := h.step hb
  refine ⟨k.old, ?_, k.thing, ?_, ?_⟩
  · intro b hb
    rcases List.mem_cons.1 hb with rfl | hb
    · exact ⟨hB, hn⟩
    · exact k.blk_ b hb
  · intro x hx
    rcases List.mem_cons.1 hx with rfl | hx
    · exact .inl (Nat.le_trans h.le hg)
    · exact k.own x hx
  · refine List.nodup_cons.2 ⟨fun hx => ?_, k.sep⟩
    have h1 := h.lt hx
    simp only at h1
    omega
theorem Mem.alloc (h : Mem G w0 L R w) (cs : Array Value) (t : TypeId) {n : Nat} (hn : cs.size = n) : Mem G w0 (⟨w.heap.size, t, n, cs⟩ :: L) R (w.alloc (.cells cs t)) :=
  h.new ((Below.refl _ _).alloc (Nat.le_refl _) _) (Nat.le_refl _) (Blk.new w _ _) hn
theorem foot_thing (A B : List Thing) (L : List Ent) (r : Thing) : foot L (A ++ r :: B) = (L.map (·.g) ++ A.flatMap (·.fp)) ++ (r.fp ++ B.flatMap (·.fp)) := by simp [foot]
/-- A thing turns. -/
theorem Mem.turn {r r' : Thing} {F : Thing → List Thing} (h : Mem G w0 L R w) (hu : UpdR r R F) (hb : Becomes r.fp w r' w') : Mem G w0 L (F r') w' := by
  obtain ⟨A, B, rfl, hF⟩ := hu
  rw [hF]
  have hsep := h.sep
  rw [foot_thing] at hsep
  have hown := h.own
  have hfar : ∀ g, g ∈ foot L (A ++ r :: B) → g ∉ r.fp → w'.heap[g]? = w.heap[g]? := fun g hg hn => hb.kept.block g (h.lt hg) hn
  refine ⟨h.old.then hb.kept fun g hg => hown g (by rw [foot_thing]; simp [hg]), ?_, ?_, ?_, ?_⟩
  · intro b hL
    refine ⟨(hfar b.g (mem_foot.2 (.inl ⟨b, hL, rfl⟩)) fun hg => ?_).trans (h.blk hL), (h.blk_ b hL).2⟩
    exact (List.nodup_append.1 hsep).2.2 b.g (List.mem_append_left _ (List.mem_map.2 ⟨b, hL, rfl⟩)) b.g (by simp [hg]) rfl
  · intro s hs
    rcases List.mem_append.1 hs with hA | hB
    · refine s.keep w w' (fun g hg => hfar g (mem_foot.2 (.inr ⟨s, by simp [hA], hg⟩)) fun hx => ?_) (h.thing s (by simp [hA]))
      exact (List.nodup_append.1 hsep).2.2 g (List.mem_append_right _ (List.mem_flatMap.2 ⟨s, hA, hg⟩)) g (by simp [hx]) rfl
    · rcases List.mem_cons.1 hB with rfl | hB
      · exact hb.holds
      · refine s.keep w w' (fun g hg => hfar g (mem_foot.2 (.inr ⟨s, by simp [hB], hg⟩)) fun hx => ?_) (h.thing s (by simp [hB]))
        exact (List.nodup_append.1 (List.nodup_append.1 hsep).2.1).2.2 g hx g (List.mem_flatMap.2 ⟨s, hB, hg⟩) rfl
  · intro g hg
    rw [foot_thing] at hg hown
    rcases List.mem_append.1 hg with hg | hg
    · exact hown g (by simp only [List.mem_append]; exact .inl (List.mem_append.1 hg))
    · rcases List.mem_append.1 hg with hg | hg
      · rcases hb.sub g hg with hx | hx
        · exact hown g (by simp [hx])
        · exact .inl (Nat.le_trans h.le hx)
      · exact hown g (by simp only [List.mem_append]; exact .inr (.inr hg))
  · rw [foot_thing]
    refine nodup_swap hsep (fun g hg => h.lt ?_) (r'.nd w' hb.holds) hb.sub
    rw [foot_thing]; exact hg
/-- The cells of one block turn. -/
theorem Mem.put {g : Nat} {t : TypeId} {n : Nat} {cs cs' : Array Value} {F : Array Value → List Ent} (h : Mem G w0 L R w) (hu : UpdL g t n cs L F) (ho : Only g w w') (hB : Blk w' g t cs') (hn : cs'.size = n) : Mem G w0 (F cs') R w' := by
  obtain ⟨A, B, rfl, hF⟩ := hu
  rw [hF]
  have hfoot : ∀ cs', foot (A ++ ⟨g, t, n, cs'⟩ :: B) R = A.map (·.g) ++ ([g] ++ (B.map (·.g) ++ R.flatMap (·.fp))) := fun cs' => by simp [foot]
  have hsep := h.sep
  rw [hfoot] at hsep
  have hown := h.own
  have hlt := h.lt (g := g) (by rw [hfoot]; simp)
  have hfar : ∀ k, k ∈ foot (A ++ ⟨g, t, n, cs⟩ :: B) R → k ≠ g → w'.heap[k]? = w.heap[k]? := fun k hk hn => ho.block k (h.lt hk) (by rintro ⟨⟩; exact hn rfl)
  have hA : g ∉ A.map (·.g) := fun hx => (List.nodup_append.1 hsep).2.2 g hx g (by simp) rfl
  have hC : g ∉ B.map (·.g) ++ R.flatMap (·.fp) := fun hx => (List.nodup_append.1 (List.nodup_append.1 hsep).2.1).2.2 g (by simp) g hx rfl
  refine ⟨h.old.then (KeptBut.only ho) (by rintro k hk; rw [List.mem_singleton.1 hk]; exact hown g (by rw [hfoot]; simp)), ?_, ?_, ?_, ?_⟩
  · intro b hb
    rcases List.mem_append.1 hb with hb | hb
    · exact ⟨(hfar b.g (mem_foot.2 (.inl ⟨b, by simp [hb], rfl⟩)) fun hx => hA (List.mem_map.2 ⟨b, hb, hx⟩)).trans (h.blk (by simp [hb])), (h.blk_ b (by simp [hb])).2⟩
    · rcases List.mem_cons.1 hb with rfl | hb
      · exact ⟨hB, hn⟩
      · exact ⟨(hfar b.g (mem_foot.2 (.inl ⟨b, by simp [hb], rfl⟩)) fun hx => hC (List.mem_append_left _ (List.mem_map.2 ⟨b, hb, hx⟩))).trans (h.blk (by simp [hb])), (h.blk_ b (by simp [hb])).2⟩
  · intro s hs
    refine s.keep w w' (fun k hk => hfar k (mem_foot.2 (.inr ⟨s, hs, hk⟩)) fun hx => hC (List.mem_append_right _ (List.mem_flatMap.2 ⟨s, hs, hx ▸ hk⟩))) (h.thing s hs)
  · rw [hfoot] at hown ⊢; exact hown
  · rw [hfoot]; exact hsep
theorem Mem.setCell {g : Nat} {t : TypeId} {n : Nat} {cs : Array Value} {F : Array Value → List Ent} (h : Mem G w0 L R w) (hu : UpdL g t n cs L F) (i : Nat) (v : Value) : Mem G w0 (F (cs.setIfInBounds i v)) R (w.setCell ⟨g, i, none⟩ v) := by
  have hin := mem_of_updL hu
  exact h.put hu ((Only.refl g w).setCell i v) ((h.blk hin).set i v) (by have := h.size hin; simpa using this)
/-- Some blocks and things are forgotten, or stand elsewhere. -/
theorem Mem.sub (h : Mem G w0 L R w) (hL : ∀ b ∈ L', b ∈ L) (hR : ∀ r ∈ R', r ∈ R) (hs : (foot L' R').Nodup) : Mem G w0 L' R' w :=
  ⟨h.old, fun b hb => h.blk_ b (hL b hb), fun r hr => h.thing r (hR r hr), fun g hg => h.own g (by
    rcases mem_foot.1 hg with ⟨b, hb, rfl⟩ | ⟨r, hr, hg⟩
    · exact mem_foot.2 (.inl ⟨b, hL b hb, rfl⟩)
    · exact mem_foot.2 (.inr ⟨r, hR r hr, hg⟩)), hs⟩
theorem foot_subL (h : L'.Sublist L) : (foot L' R).Sublist (foot L R) := (h.map _).append (List.Sublist.refl _)
theorem flatMap_sub {f : Thing → List Nat} : ∀ {A B : List Thing}, A.Sublist B → (A.flatMap f).Sublist (B.flatMap f)
  | _, _, .slnil => List.Sublist.refl _
  | _, _, .cons b h => by simp only [List.flatMap_cons]; exact (flatMap_sub h).trans (List.sublist_append_right _ _)
  | _, _, .cons_cons _ h => by simp only [List.flatMap_cons]; exact (List.Sublist.refl _).append (flatMap_sub h)
theorem Mem.subL (h : Mem G w0 L R w) (hs : L'.Sublist L) : Mem G w0 L' R w := h.sub (fun _ hb => hs.subset hb) (fun _ h => h) (h.sep.sublist (foot_subL hs))
theorem Mem.subR (h : Mem G w0 L R w) (hs : R'.Sublist R) : Mem G w0 L R' w := h.sub (fun _ h => h) (fun _ hr => hs.subset hr) (h.sep.sublist ((List.Sublist.refl _).append (flatMap_sub hs)))
/-- The same blocks in another order, or otherwise parted among things. -/
theorem Mem.repack (h : Mem G w0 L R w) (hL : ∀ b ∈ L', Blk w b.g b.t b.cs ∧ b.cs.size = b.n) (hR : ∀ r ∈ R', r.P w) (hp : (foot L' R').Perm (foot L R)) : Mem G w0 L' R' w :=
  ⟨h.old, hL, hR, fun g hg => h.own g (hp.mem_iff.1 hg), hp.nodup_iff.2 h.sep⟩
/-- A new thing. -/
theorem Mem.newThing (h : Mem G w0 L R w) {r : Thing} (hb : Becomes [] w r w') : Mem G w0 L (r :: R) w' := by
  have k := h.step hb.kept.below
  have hge : ∀ g ∈ r.fp, w.heap.size ≤ g := fun g hg => by simpa using hb.sub g hg
  have hf : (foot L (r :: R)).Perm (r.fp ++ foot L R) := by
    simp only [foot, List.flatMap_cons]
    rw [← List.append_assoc, ← List.append_assoc]
    exact List.Perm.append_right _ List.perm_append_comm
  refine ⟨k.old, k.blk_, ?_, ?_, ?_⟩
  · intro s hs
    rcases List.mem_cons.1 hs with rfl | hs
    · exact hb.holds
    · exact k.thing s hs
  · intro g hg
    rcases List.mem_append.1 (hf.mem_iff.1 hg) with hg | hg
    · exact .inl (Nat.le_trans h.le (hge g hg))
    · exact h.own g hg
  · refine hf.nodup_iff.2 (List.nodup_append.2 ⟨r.nd w' hb.holds, h.sep, fun g hg k hk => ?_⟩)
    have := hge g hg
    have := h.lt hk
    omega
/-! Names for the blocks of a list. -/
theorem Mem.name1 {g n : Nat} {t : TypeId} {cs : Array Value} (_ : Mem G w0 (⟨g, t, n, cs⟩ :: L) R w) : ∃ x, x = g := ⟨_, rfl⟩
/-- The call ends: what it left of a thing. -/
theorem Mem.becomes {r : Thing} (h : Mem G w0 L R w) (hr : r ∈ R) : Becomes G w0 r w :=
  ⟨h.thing r hr, h.old, fun g hg => (h.own g (mem_foot.2 (.inr ⟨r, hr, hg⟩))).symm⟩
theorem Becomes.fresh {r : Thing} (h : Becomes [] w r w') : Below w.heap.size w w' := h.kept.below
end
end Go.Thg
namespace Go.Thg
open Go Go.RowKit Go.Bul
/-- A slice of n elements whose cells are xs; nothing else looks at its block. -/
def OffRow (w : World) (e : TypeId) (size : Nat) (v : Value) (n : Nat) (xs : List Value) : Prop :=
  xs.length = n * size ∧ ∃ A c, v = .slice A n c ∧ n ≤ c ∧ c ≤ maxLen ∧ (0 < c → ∃ g off cur, A = some ⟨g, off, none⟩ ∧ w.heap[g]? = some (.cells cur e (0, 0)) ∧ off + c * size ≤ cur.size ∧ ∀ j, j < n * size → cur[off + j]? = xs[j]?)
def sFp : Value → List Nat
  | .slice (some a) _ (_ + 1) => [a.block]
  | _ => []
theorem sFp_pos {a : Addr} {n c : Nat} (hc : 0 < c) : sFp (.slice (some a) n c) = [a.block] := by
  cases c with
  | zero => omega
  | succ c => rfl
theorem sFp_zero {A : Option Addr} {n : Nat} : sFp (.slice A n 0) = [] := by cases A <;> rfl
theorem OffRow.keep {w w' : World} {e : TypeId} {size : Nat} {v : Value} {n : Nat} {xs : List Value} (h : OffRow w e size v n xs) (hk : ∀ g ∈ sFp v, w'.heap[g]? = w.heap[g]?) : OffRow w' e size v n xs := by
  obtain ⟨h1, A, c, rfl, h2, h3, h4⟩ := h
  refine ⟨h1, A, c, rfl, h2, h3, fun hc => ?_⟩
  obtain ⟨g, off, cur, rfl, h5, h6⟩ := h4 hc
  exact ⟨g, off, cur, rfl, (hk g (by rw [sFp_pos hc]; simp)).trans h5, h6⟩
theorem OffRow.lt {w : World} {e : TypeId} {size : Nat} {v : Value} {n : Nat} {xs : List Value} (h : OffRow w e size v n xs) : ∀ g ∈ sFp v, g < w.heap.size := by
  obtain ⟨h1, A, c, rfl, h2, h3, h4⟩ := h
  intro g hg
  rcases Nat.eq_zero_or_pos c with hc | hc
  · subst hc; rw [sFp_zero] at hg; cases hg
  · obtain ⟨g', off, cur, rfl, h5, h6⟩ := h4 hc
    rw [sFp_pos hc] at hg
    rw [List.mem_singleton.1 hg]
    exact (Array.getElem?_eq_some_iff.1 h5).1
theorem sFp_nodup (v : Value) : (sFp v).Nodup := by
  unfold sFp
  split <;> simp
/-- The slice, as a thing. -/
def rowT (e : TypeId) (size : Nat) (v : Value) (n : Nat) (xs : List Value) : Thing :=
  ⟨sFp v, fun w => OffRow w e size v n xs, fun _ _ hk h => h.keep hk, fun _ h => h.lt, fun _ _ => sFp_nodup v⟩
theorem OffRow.nil (w : World) (e : TypeId) (size : Nat) : OffRow w e size (.slice none 0 0) 0 [] := ⟨by simp, none, 0, rfl, Nat.le_refl _, by unfold maxLen; omega, fun h => by omega⟩
theorem OffRow.empty (w : World) (e : TypeId) (size : Nat) (A : Option Addr) : OffRow w e size (.slice A 0 0) 0 [] := ⟨by simp, A, 0, rfl, Nat.le_refl _, by unfold maxLen; omega, fun h => by omega⟩
theorem OffRow.form {w : World} {e : TypeId} {size : Nat} {v : Value} {n : Nat} {xs : List Value} (h : OffRow w e size v n xs) : ∃ A c, v = .slice A n c ∧ n ≤ c ∧ c ≤ maxLen := by
  obtain ⟨_, A, c, h1, h2, h3, _⟩ := h
  exact ⟨A, c, h1, h2, h3⟩
/-- What the slice reads as. -/
theorem OffRow.cells {w : World} {e : TypeId} {size : Nat} {A : Option Addr} {n c : Nat} {xs : List Value} (h : OffRow w e size (.slice A n c) n xs) (hn : 0 < n) :
    ∃ g off, A = some ⟨g, off, none⟩ ∧ g < w.heap.size ∧ (∀ j u, xs[j]? = some u → w.cell? ⟨g, off + j, none⟩ = some u) ∧ ∀ j, w.frozen? ⟨g, off + j, none⟩ = false := by
  obtain ⟨h1, A', c', he, h2, h3, h4⟩ := h
  have e1 : A = A' := by injection he
  have e2 : c = c' := by injection he
  subst e1 e2
  obtain ⟨g, off, cur, rfl, h5, h6, h7⟩ := h4 (by omega)
  refine ⟨g, off, rfl, (Array.getElem?_eq_some_iff.1 h5).1, fun j u hu => ?_, fun j => frozen_of_row w g _ cur e h5⟩
  rw [cell_of_row w g _ cur e (0, 0) h5, h7 j ?_, hu]
  have := (List.getElem?_eq_some_iff.1 hu).1
  omega
theorem OffRow.src {P : Program} {w : World} {e : TypeId} {size : Nat} {A : Option Addr} {n c : Nat} {xs : List Value} {tx e' : TypeId} (h : OffRow w e size (.slice A n c) n xs) (hk : P.underlying tx = some (.slice e')) (h1 : ∀ u ∈ xs, u.oneCell' = true) : Src P size tx (.slice A n c) n xs w := by
  rcases Nat.eq_zero_or_pos n with hn | hn
  · subst hn
    have hx : xs = [] := List.eq_nil_of_length_eq_zero (by simpa using h.1)
    subst hx
    cases A with
    | none => exact Src.ofNil w hk c
    | some a => exact Src.ofSlice w hk a 0 c [] (by simp) (by simp) h1
  · obtain ⟨g, off, rfl, _, h2, _⟩ := h.cells hn
    exact Src.ofSlice w hk _ n c xs h.1 (fun j u hu => by rw [addr_at]; exact h2 j u hu) h1
/-- Cells written into a block. -/
theorem heap_setCells (g : Nat) (e : TypeId) : ∀ (vs : List Value) (o : Nat) (w : World) (cur : Array Value), w.heap[g]? = some (.cells cur e (0, 0)) → ∃ cur', (w.setCells g o vs).heap[g]? = some (.cells cur' e (0, 0)) ∧ cur'.size = cur.size
  | [], o, w, cur, h => ⟨cur, h, rfl⟩
  | v :: vs, o, w, cur, h => by
    obtain ⟨cur', h1, h2⟩ := heap_setCells g e vs (o + 1) (w.setCell ⟨g, o, none⟩ v) _ (heap_setCell_same w g o cur e v h)
    exact ⟨cur', h1, by simpa using h2⟩
theorem size_setCells (g : Nat) : ∀ (vs : List Value) (o : Nat) (w : World), (w.setCells g o vs).heap.size = w.heap.size
  | [], _, _ => rfl
  | v :: vs, o, w => by
    show ((w.setCell ⟨g, o, none⟩ v).setCells g (o + 1) vs).heap.size = _
    rw [size_setCells g vs]
    simp [World.setCell]
theorem tape_setCells (g : Nat) : ∀ (vs : List Value) (o : Nat) (w : World), (w.setCells g o vs).tape = w.tape
  | [], _, _ => rfl
  | v :: vs, o, w => by
    show ((w.setCell ⟨g, o, none⟩ v).setCells g (o + 1) vs).tape = _
    rw [tape_setCells g vs]
    rfl
/-- append onto such a slice, from whatever source. -/
theorem run_append_off {P : Program} {w : World} (t tx ty e : TypeId) (z : Value) (size bytes : Nat) (ht : P.underlying t = some (.slice e)) (hi : (P.info? e).map (fun i => (i.zero, i.size, i.bytes)) = some (some z, size, bytes)) (hzs : z.cells.size = size)
    (v : Value) (n : Nat) (xs : List Value) (hown : OffRow w e size v n xs) (x : Value) (m : Nat) (news : List Value) (hs : Src P size tx x m news w) (h63 : n + m ≤ maxLen) (hbytes : (n + m) * bytes ≤ 140737488355328) :
    ∃ A' c' w', (Builtin.append_ #[t, tx] ty #[v, x]).run P w = .ok (.slice A' (n + m) c') w' ∧ Becomes (sFp v) w (rowT e size (.slice A' (n + m) c') (n + m) (xs ++ news)) w' := by
  obtain ⟨i, hi', hz', hs', hb'⟩ := info_parts hi
  subst hs' hb'
  obtain ⟨hxl, A, c, rfl, hnc, hcm, hblk⟩ := hown
  have hnl := hs.newsLen
  have hlen : (xs ++ news).length = (n + m) * i.size := by rw [List.length_append, hxl, hnl, Nat.add_mul]
  by_cases hroom : n + m ≤ c
  · rcases Nat.eq_zero_or_pos c with hc | hc
    · subst hc
      obtain rfl : n = 0 := by omega
      obtain rfl : m = 0 := by omega
      obtain rfl : xs = [] := List.eq_nil_of_length_eq_zero (by simpa using hxl)
      obtain rfl : news = [] := List.eq_nil_of_length_eq_zero (by simpa using hnl)
      exact ⟨A, 0, w, run_append_nothing w t tx ty e i ht hi' A 0 0 (Nat.le_refl _) x hs, OffRow.empty w e i.size A, KeptBut.refl _ _, fun g hg => .inl hg⟩
    · obtain ⟨g, off, cur, rfl, hg, hsz, hcur⟩ := hblk hc
      have hmul : (n + m) * i.size ≤ c * i.size := Nat.mul_le_mul_right _ hroom
      rw [Nat.add_mul] at hmul
      have hcell : ∀ k, w.cell? ⟨g, k, none⟩ = cur[k]? := fun k => cell_of_row w g k cur e (0, 0) hg
      have hsome : ∀ j, j < news.length → (w.cell? ⟨g, off + n * i.size + j, none⟩).isSome = true := fun j hj => by
        rw [hcell, Array.getElem?_eq_getElem (by omega)]; rfl
      have hrun := run_append_room_src (P := P) w t tx ty e i ht hi' g off n c x m news hs hroom hsome (fun j _ => frozen_of_row w g _ cur e hg)
      obtain ⟨cur', hg', hsz'⟩ := heap_setCells g e news (off + n * i.size) w cur hg
      have hcell' : ∀ k, (w.setCells g (off + n * i.size) news).cell? ⟨g, k, none⟩ = cur'[k]? := fun k => cell_of_row _ g k cur' e (0, 0) hg'
      refine ⟨_, c, _, hrun, ⟨hlen, some ⟨g, off, none⟩, c, rfl, hroom, hcm, fun _ => ⟨g, off, cur', rfl, hg', by omega, fun j hj => ?_⟩⟩, ⟨World.os_setCells _ _ _ _, tape_setCells _ _ _ _, World.output_setCells _ _ _ _, by rw [size_setCells]; exact Nat.le_refl _, fun k hk hn => World.heap_setCells_other w g _ news hk (by rintro rfl; exact hn (by rw [sFp_pos hc]; simp))⟩, fun k hk => ?_⟩
      · rw [← hcell']
        by_cases hjx : j < xs.length
        · rw [World.cell?_setCells_out g _ _ _ _ (fun _ _ => Or.inl (by show off + j < off + n * i.size; omega)), hcell, hcur j (by omega), List.getElem?_append_left hjx]
        · have hjn : j - xs.length < news.length := by rw [List.length_append] at hlen; rw [Nat.add_mul] at hj; omega
          have h1 := World.cell?_setCells_in g news (off + n * i.size) w hsome (j - xs.length) hjn
          rw [show off + n * i.size + (j - xs.length) = off + j by omega] at h1
          rw [h1, List.getElem?_append_right (by omega), List.getElem?_eq_getElem hjn]
      · refine .inl ?_
        have hk' : k ∈ sFp (.slice (some ⟨g, off, none⟩) (n + m) c) := hk
        rw [sFp_pos hc] at hk' ⊢
        exact hk'
  · have hold : (Builtin.firstCells i.size n (.slice A n c)).run P w.drew = .ok xs.toArray w.drew := by
      rcases Nat.eq_zero_or_pos c with hc | hc
      · subst hc
        obtain rfl : n = 0 := by omega
        obtain rfl : xs = [] := List.eq_nil_of_length_eq_zero (by simpa using hxl)
        cases A with
        | none => exact run_firstCells_none w.drew i.size 0 0 0
        | some a => exact run_firstCells_some w.drew i.size 0 a 0 0 [] (by simp) (by simp)
      · obtain ⟨g, off, cur, rfl, hg, hsz, hcur⟩ := hblk hc
        refine run_firstCells_some w.drew i.size n ⟨g, off, none⟩ n c xs hxl fun j u hu => ?_
        rw [addr_at]
        show w.cell? _ = _
        rw [cell_of_row w g _ cur e (0, 0) hg, hcur j (by have := (List.getElem?_eq_some_iff.1 hu).1; omega), hu]
    have hsmall : n + m ≤ 9223372036854775807 := by simp only [maxLen] at h63; omega
    have hrun := run_append_grow_src (P := P) w t tx ty e i z ht hi' hz' A n c xs hold x m news hs (by omega) (by omega) (growslice_fits (by omega) hbytes)
    have hge := grownCap_ge w (n + m) c e
    have hcm' := grownCap_le_maxLen w (n + m) c e h63
    refine ⟨_, _, _, hrun, ⟨hlen, _, _, rfl, hge, hcm', fun _ => ⟨w.heap.size, 0, _, rfl, heap_alloc_new w.drew _, ?_, fun j hj => ?_⟩⟩, ⟨rfl, rfl, rfl, by simp, fun k hk _ => Below.heap_alloc w.drew _ k hk⟩, fun k hk => ?_⟩
    · rw [Array.size_append, List.size_toArray, hlen, size_zeroCells, hzs, ← Nat.add_mul, Nat.zero_add]
      apply Nat.le_of_eq
      congr 1
      omega
    · rw [Nat.zero_add, Array.getElem?_append_left (by rw [List.size_toArray, hlen]; exact hj), List.getElem?_toArray]
    · refine .inr ?_
      have hk' : k ∈ sFp (.slice (some ⟨w.heap.size, 0, none⟩) (n + m) (grownCap w (n + m) c e)) := hk
      rcases Nat.eq_zero_or_pos (grownCap w (n + m) c e) with h0 | h0
      · rw [h0, sFp_zero] at hk'; cases hk'
      · rw [sFp_pos h0] at hk'
        rw [List.mem_singleton.1 hk']
        exact Nat.le_refl _
/-- The rest of such a slice. -/
theorem OffRow.rest {w : World} {e : TypeId} {size : Nat} {A : Option Addr} {n c : Nat} {xs : List Value} (h : OffRow w e size (.slice A n c) n xs) (k : Nat) (hk : k ≤ n) :
    ∃ A', OffRow w e size (.slice A' (n - k) (c - k)) (n - k) (xs.drop (k * size)) ∧ (∀ g ∈ sFp (.slice A' (n - k) (c - k)), g ∈ sFp (.slice A n c)) ∧
      ((k < c → ∀ g off, A = some ⟨g, off, none⟩ → A' = some ⟨g, off + k * size, none⟩) ∧ (c ≤ k → A' = A)) := by
  obtain ⟨h1, A', c', he, h2, h3, h4⟩ := h
  have e1 : A = A' := by injection he
  have e2 : c = c' := by injection he
  subst e1 e2
  have hl : (xs.drop (k * size)).length = (n - k) * size := by rw [List.length_drop, h1, Nat.sub_mul]
  by_cases hc : k < c
  · obtain ⟨g, off, cur, rfl, h5, h6, h7⟩ := h4 (by omega)
    refine ⟨some ⟨g, off + k * size, none⟩, ⟨hl, _, _, rfl, by omega, by omega, fun _ => ⟨g, off + k * size, cur, rfl, h5, ?_, fun j hj => ?_⟩⟩, fun x hx => ?_, fun _ g' off' hg => ?_, fun hck => by omega⟩
    · have : (c - k) * size + k * size = c * size := by rw [← Nat.add_mul]; congr 1; omega
      omega
    · have hm : (n - k) * size + k * size = n * size := by rw [← Nat.add_mul]; congr 1; omega
      rw [List.getElem?_drop, Nat.add_assoc, h7 _ (by omega)]
    · rw [sFp_pos (by omega)] at hx ⊢
      exact hx
    · injection hg with hg
      injection hg with h8 h9
      subst h8 h9
      rfl
  · have e3 : c = n := by omega
    have e4 : k = n := by omega
    subst e3 e4
    refine ⟨A, ?_, ?_, fun h => absurd h hc, fun _ => rfl⟩
    · rw [Nat.sub_self, List.drop_of_length_le (by omega)]
      exact OffRow.empty w e size A
    · rw [Nat.sub_self, sFp_zero]
      intro g hg
      cases hg
/-! ### Groups -/
def grp (L : List Ent) (R : List Thing) : Thing :=
  ⟨foot L R, fun w => (∀ b ∈ L, Blk w b.g b.t b.cs ∧ b.cs.size = b.n) ∧ (∀ r ∈ R, r.P w) ∧ (foot L R).Nodup,
    fun w w' hk h => ⟨fun b hb => ⟨(hk b.g (mem_foot.2 (.inl ⟨b, hb, rfl⟩))).trans (h.1 b hb).1, (h.1 b hb).2⟩, fun r hr => r.keep w w' (fun g hg => hk g (mem_foot.2 (.inr ⟨r, hr, hg⟩))) (h.2.1 r hr), h.2.2⟩,
    fun w h g hg => by
      rcases mem_foot.1 hg with ⟨b, hb, rfl⟩ | ⟨r, hr, hg⟩
      · exact (h.1 b hb).1.lt
      · exact r.lt w (h.2.1 r hr) g hg,
    fun _ h => h.2.2⟩
section
variable {G : List Nat} {w0 w : World} {L : List Ent} {R : List Thing}
theorem foot_app (L1 L : List Ent) (R1 R : List Thing) : (foot (L1 ++ L) (R1 ++ R)).Perm (foot L (grp L1 R1 :: R)) := by
  simp only [foot, List.map_append, List.flatMap_append, List.flatMap_cons, grp]
  rw [List.append_assoc, List.append_assoc]
  have h1 : (L.map (·.g) ++ (R1.flatMap (·.fp) ++ R.flatMap (·.fp))).Perm (R1.flatMap (·.fp) ++ (L.map (·.g) ++ R.flatMap (·.fp))) := by
    rw [← List.append_assoc, ← List.append_assoc]
    exact List.Perm.append_right _ List.perm_append_comm
  refine (List.Perm.append_left _ h1).trans ?_
  rw [← List.append_assoc, ← List.append_assoc, ← List.append_assoc, ← List.append_assoc]
  refine List.Perm.append_right _ ?_
  exact List.perm_append_comm.trans (by rw [List.append_assoc])
theorem Mem.open {L1 : List Ent} {R1 : List Thing} (h : Mem G w0 L (grp L1 R1 :: R) w) : Mem G w0 (L1 ++ L) (R1 ++ R) w := by
  have hg := h.thing (grp L1 R1) (by simp)
  refine h.repack (fun b hb => ?_) (fun r hr => ?_) (foot_app _ _ _ _)
  · rcases List.mem_append.1 hb with hb | hb
    · exact hg.1 b hb
    · exact h.blk_ b hb
  · rcases List.mem_append.1 hr with hr | hr
    · exact hg.2.1 r hr
    · exact h.thing r (by simp [hr])
/-- Things in another order. -/
theorem Mem.perm {R' : List Thing} (h : Mem G w0 L R w) (hp : R'.Perm R) : Mem G w0 L R' w :=
  h.repack (fun b hb => h.blk_ b hb) (fun r hr => h.thing r (hp.mem_iff.1 hr)) (List.Perm.append_left _ (List.Perm.flatMap_right _ hp))
theorem Mem.permL {L' : List Ent} (h : Mem G w0 L R w) (hp : L'.Perm L) : Mem G w0 L' R w :=
  h.repack (fun b hb => h.blk_ b (hp.mem_iff.1 hb)) (fun r hr => h.thing r hr) (List.Perm.append_right _ (hp.map _))
end
end Go.Thg
