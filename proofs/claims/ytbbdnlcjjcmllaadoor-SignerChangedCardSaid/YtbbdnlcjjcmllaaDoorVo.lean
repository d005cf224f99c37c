/- Contract of the reference's schedule. Condition: the slice reads as 64 bytes. Contract of the reference's Sum. Condition: fewer than 2^40 bytes. -/
import Derived.Test.YtbbdnlcjjcmllaaDoorVn
namespace Go.Proofs.YtbbdnlcjjcmllaaDoor
open Go Go.RowKit Go.Bul
structure SchInv (w : World) (m : Nat → Nat) (t : Nat) (wr : World) : Prop where
  res : Blk wr w.heap.size 153 (cellsOf .u32 (List.replicate 64 0))
  ex : ∃ l : List Nat, l.length = 64 ∧ (∀ i, i < t → l.getD i 0 = W m i) ∧ Blk wr (w.heap.size + 1) 153 (cellsOf .u32 l)
  old : Below w.heap.size w wr
theorem SchInv.next {w wr : World} {m : Nat → Nat} {k : Nat} (h : SchInv w m k wr) (hk : k < 64) : SchInv w m (k + 1) (wr.setCell ⟨w.heap.size + 1, k, none⟩ (.int .u32 (W m k : Nat))).drew := by
  obtain ⟨hres, ⟨l, hl, hlk, hB⟩, hold⟩ := h
  refine ⟨(hres.far (by dsimp only; omega) _).drew, ⟨l.set k (W m k), by simp [hl], fun i hi => ?_, ?_⟩, (hold.setCell (by simp) _).drew⟩
  · rw [getD_set _ _ _ _ (by omega)]
    split
    · rename_i he; rw [he]
    · rename_i he; exact hlk i (by omega)
  · rw [← cellsOf_set]
    exact (hB.set _ _).drew
end Go.Proofs.YtbbdnlcjjcmllaaDoor
namespace Go.Proofs.YtbbdnlcjjcmllaaDoor
open Go Go.RowKit Go.Bul
theorem set8_size (w : World) (g : Nat) (v : Bul.St) : w.heap.size ≤ (set8 w g v).heap.size :=
  (set8_below (B := 0) v (Below.refl 0 w) (Nat.zero_le _)).size
theorem set8_other (w : World) (g b : Nat) (v : Bul.St) (h : b ≠ g) : (set8 w g v).heap[b]? = w.heap[b]? := by
  unfold set8
  repeat rw [Below.heap_setCell _ _ _ _ (by exact h)]
/-- What the reference's variables hold between the blocks. -/
structure RefInv (w : World) (at0 : World) (P : List Nat) (N : Nat) (A : Option Addr) (b : Nat) (h : Bul.St) (wr : World) : Prop where
  hh : Blk wr (w.heap.size + 1) 155 (stc h)
  kk : Blk wr at0.heap.size 153 (cellsOf .u32 Bul.ks)
  pp : Rd wr (fun g => w.heap.size ≤ g) A N P
  old : Below w.heap.size w wr
/-- Between the rounds of a block. -/
structure InnerInv (w : World) (G4 G7 G8 B2 : Nat) (K0 WL z P : List Nat) (ad : Addr) (N : Nat) (h0 : Bul.St) (m : Nat → Nat) (t : Nat) (wr : World) : Prop where
  v : Blk wr G8 155 (stc (Bul.stAt m h0 t))
  h : Blk wr (w.heap.size + 1) 155 (stc h0)
  k : Blk wr G4 153 (cellsOf .u32 K0)
  wl : Blk wr G7 153 (cellsOf .u32 WL)
  p : Rd wr (fun g => B2 ≤ g ∧ g < G7) (some ad) N P
  r : Blk wr w.heap.size 22 (cellsOf .u8 z)
  old : Below w.heap.size w wr
theorem InnerInv.next {w : World} {G4 G7 G8 B2 : Nat} {K0 WL z P : List Nat} {ad : Addr} {N : Nat} {h0 : Bul.St} {m : Nat → Nat} {t : Nat} {wr w8 : World} (hI : InnerInv w G4 G7 G8 B2 K0 WL z P ad N h0 m t wr) (hb : Below wr.heap.size wr w8)
    (h1 : w.heap.size + 1 < G8) (h4 : G4 < G8) (h7 : G7 < G8) (a b c d e f g h : Nat) (hv : (⟨a, b, c, d, e, f, g, h⟩ : Bul.St) = Bul.stAt m h0 (t + 1)) :
    InnerInv w G4 G7 G8 B2 K0 WL z P ad N h0 m (t + 1) ((((((((w8.setCell ⟨G8, 0, none⟩ (.int .u32 (a : Nat))).setCell ⟨G8, 1, none⟩ (.int .u32 (b : Nat))).setCell ⟨G8, 2, none⟩ (.int .u32 (c : Nat))).setCell ⟨G8, 3, none⟩ (.int .u32 (d : Nat))).setCell ⟨G8, 4, none⟩ (.int .u32 (e : Nat))).setCell ⟨G8, 5, none⟩ (.int .u32 (f : Nat))).setCell ⟨G8, 6, none⟩ (.int .u32 (g : Nat))).setCell ⟨G8, 7, none⟩ (.int .u32 (h : Nat))) := by
  have key : InnerInv w G4 G7 G8 B2 K0 WL z P ad N h0 m (t + 1) (set8 w8 G8 ⟨a, b, c, d, e, f, g, h⟩) := by
    refine ⟨?_, set8_far _ (hI.h.kept hb) (by omega), set8_far _ (hI.k.kept hb) (by omega), set8_far _ (hI.wl.kept hb) (by omega), ?_, set8_far _ (hI.r.kept hb) (by omega), set8_below _ (Below.step hI.old hb) (by omega)⟩
    · have := set8_blk (⟨a, b, c, d, e, f, g, h⟩ : Bul.St) (hI.v.kept hb) rfl
      rwa [hv] at this ⊢
    · exact (hI.p.kept hb).keep (set8_size _ _ _) (fun g h1 _ => set8_other _ _ _ _ (by omega))
  exact key
/-- Between the sums of the words of two states. -/
structure AddInv (w : World) (G4 G8 B2 G7 : Nat) (K0 z P : List Nat) (ad : Addr) (N : Nat) (h0 v : Bul.St) (j : Nat) (wr : World) : Prop where
  h : ∃ l : List Nat, l.length = 8 ∧ (∀ k, k < 8 → l.getD k 0 = if k < j then add32 (h0.list.getD k 0) (v.list.getD k 0) else h0.list.getD k 0) ∧ Blk wr (w.heap.size + 1) 155 (cellsOf .u32 l)
  v : Blk wr G8 155 (stc v)
  k : Blk wr G4 153 (cellsOf .u32 K0)
  p : Rd wr (fun g => B2 ≤ g ∧ g < G7) (some ad) N P
  r : Blk wr w.heap.size 22 (cellsOf .u8 z)
  old : Below w.heap.size w wr
theorem AddInv.next {w : World} {G4 G8 B2 G7 : Nat} {K0 z P : List Nat} {ad : Addr} {N : Nat} {h0 v : Bul.St} {j : Nat} {wr : World} (h : AddInv w G4 G8 B2 G7 K0 z P ad N h0 v j wr) (hj : j < 8)
    (h4 : w.heap.size + 1 ≠ G4) (h8 : w.heap.size + 1 ≠ G8) (h2 : w.heap.size + 1 < B2) :
    AddInv w G4 G8 B2 G7 K0 z P ad N h0 v (j + 1) (wr.setCell ⟨w.heap.size + 1, j, none⟩ (.int .u32 (add32 (h0.list.getD j 0) (v.list.getD j 0) : Nat))).drew := by
  obtain ⟨⟨l, hl, hlk, hB⟩, hv, hk, hp, hr, hold⟩ := h
  refine ⟨⟨l.set j (add32 (h0.list.getD j 0) (v.list.getD j 0)), by simp [hl], fun k hk => ?_, ?_⟩, (hv.far (by dsimp only; omega) _).drew, (hk.far (by dsimp only; omega) _).drew, ?_, (hr.far (by dsimp only; omega) _).drew, (hold.setCell (by simp) _).drew⟩
  · rw [getD_set _ _ _ _ (by omega)]
    split
    · rename_i he; subst he; rw [if_pos (by omega)]
    · rename_i he; rw [hlk k hk]; simp only [show k < j + 1 ↔ k < j by omega]
  · rw [← cellsOf_set]
    exact (hB.set _ _).drew
  · exact hp.keep (by simp [World.setCell]) fun b hb _ => Below.heap_setCell _ _ _ _ (by dsimp only; omega)
theorem AddInv.done {w : World} {G4 G8 B2 G7 : Nat} {K0 z P : List Nat} {ad : Addr} {N : Nat} {h0 v : Bul.St} {wr : World} (h : AddInv w G4 G8 B2 G7 K0 z P ad N h0 v 8 wr) :
    Blk wr (w.heap.size + 1) 155 (stc (plus h0 v)) := by
  obtain ⟨⟨l, hl, hlk, hB⟩, _⟩ := h
  have : l = (plus h0 v).list := by
    refine List.ext_getElem (by rw [hl]; rfl) (fun i h1 h2 => ?_)
    have h3 := hlk i (by omega)
    rw [if_pos (by omega)] at h3
    simp only [List.getD, List.getElem?_eq_getElem h1, Option.getD_some] at h3
    rw [h3]
    rw [hl] at h1
    rcases (show i = 0 ∨ i = 1 ∨ i = 2 ∨ i = 3 ∨ i = 4 ∨ i = 5 ∨ i = 6 ∨ i = 7 by omega) with rfl | rfl | rfl | rfl | rfl | rfl | rfl | rfl <;> rfl
  rw [this] at hB
  exact hB
/-- While the bytes are written out. -/
structure OutInv (w : World) (S : Bul.St) (G : Nat) (z : List Nat) (i : Nat) (wr : World) : Prop where
  h : Blk wr (w.heap.size + 1) 155 (stc S)
  o : ∃ l : List Nat, l.length = 32 ∧ (∀ j, j < i → l.getD j 0 = S.out.getD j 0) ∧ Blk wr G 22 (cellsOf .u8 l)
  r : Blk wr w.heap.size 22 (cellsOf .u8 z)
  old : Below w.heap.size w wr
theorem OutInv.next {w : World} {S : Bul.St} {G : Nat} {z : List Nat} {i : Nat} {wr : World} (h : OutInv w S G z i wr) (hi : i < 32) (hG : w.heap.size + 1 < G) (y : Int) (hy : y = (S.out.getD i 0 : Nat)) :
    OutInv w S G z (i + 1) (wr.setCell ⟨G, i, none⟩ (.int .u8 y)) := by
  subst hy
  obtain ⟨hh, ⟨l, hl, hlk, hB⟩, hr, hold⟩ := h
  refine ⟨hh.far (by dsimp only; omega) _, ⟨l.set i (S.out.getD i 0), by simp [hl], fun j hj => ?_, ?_⟩, hr.far (by dsimp only; omega) _, hold.setCell (by dsimp only; omega) _⟩
  · rw [getD_set _ _ _ _ (by omega)]
    split
    · rename_i he; rw [he]
    · rename_i he; exact hlk j (by omega)
  · rw [← cellsOf_set]
    exact hB.set _ _
theorem OutInv.done {w : World} {S : Bul.St} {G : Nat} {z : List Nat} {wr : World} (h : OutInv w S G z 32 wr) : Blk wr G 22 (cellsOf .u8 S.out) := by
  obtain ⟨_, ⟨l, hl, hlk, hB⟩, _⟩ := h
  have : l = S.out := by
    refine List.ext_getElem (by rw [hl, Bul.out_length]) (fun i h1 h2 => ?_)
    have := hlk i (by omega)
    simpa [h1, h2] using this
  rwa [this] at hB
end Go.Proofs.YtbbdnlcjjcmllaaDoor
