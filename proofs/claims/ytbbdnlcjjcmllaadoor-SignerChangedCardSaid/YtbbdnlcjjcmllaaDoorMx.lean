/- Rows of pairs of the reference's nodes. Contract of the reference's Pairs. MerkleVerify: the walk. -/
import Derived.Test.YtbbdnlcjjcmllaaDoorVt
namespace Go.Lin
open Go Go.Bul
def prCells (l : List (Nd × Nd)) : List Value := l.flatMap fun x => vals .u8 (x.1.val ++ x.2.val)
theorem prCells_length (l : List (Nd × Nd)) : (prCells l).length = l.length * 32 := by
  induction l with
  | nil => rfl
  | cons x l ih => simp only [prCells, List.flatMap_cons, List.length_append, List.length_cons, vals_length, x.1.len, x.2.len] at ih ⊢; omega
theorem prCells_get : ∀ (l : List (Nd × Nd)) (i : Nat) (h : i < l.length) (j : Nat) (u : Value), (ndC2 l[i].1 l[i].2)[j]? = some u → (prCells l)[i * 32 + j]? = some u
  | x :: l, 0, _, j, u, hu => by
    have hj : j < 32 := by rw [← ndC2_size x.1 x.2]; exact (Array.getElem?_eq_some_iff.1 hu).1
    have e : prCells (x :: l) = vals .u8 (x.1.val ++ x.2.val) ++ prCells l := by simp [prCells]
    have hj2 : j < (vals .u8 (x.1.val ++ x.2.val)).length := by rw [vals_length, List.length_append, x.1.len, x.2.len]; exact hj
    rw [e, Nat.zero_mul, Nat.zero_add, List.getElem?_append_left hj2]
    simpa [ndC2, cellsOf] using hu
  | x :: l, i + 1, h, j, u, hu => by
    have e : prCells (x :: l) = vals .u8 (x.1.val ++ x.2.val) ++ prCells l := by simp [prCells]
    have h16 : (vals .u8 (x.1.val ++ x.2.val)).length = 32 := by rw [vals_length, List.length_append, x.1.len, x.2.len]
    have hi : i < l.length := by simpa using h
    rw [e, List.getElem?_append_right (by rw [h16]; omega), h16, show (i + 1) * 32 + j - 32 = i * 32 + j by omega]
    exact prCells_get l i hi j u hu
/-- The pairs on the way. -/
def pairsF (idx : Int) : Nat → Nd → List Nd → List (Nd × Nd)
  | _, _, [] => []
  | lev, x, s :: l => pairN idx lev x s :: pairsF idx (lev + 1) (stepN idx lev x s) l
theorem pairsF_length (idx : Int) : ∀ (l : List Nd) (lev : Nat) (x : Nd), (pairsF idx lev x l).length = l.length
  | [], _, _ => rfl
  | s :: l, lev, x => by simp only [pairsF, List.length_cons, pairsF_length idx l]
def pairsE (x : Nd) (idx : Int) (path : List Nd) : List (Nd × Nd) :=
  if 10 < path.length then [] else if idx < 0 ∨ (2 : Int) ^ path.length ≤ idx then [] else pairsF idx 0 x path
end Go.Lin
namespace Go.Proofs.YtbbdnlcjjcmllaaDoor
open Go Go.RowKit Go.Bul Go.Thg Go.Lin
def PIn (w : World) (A : Option Addr) (n : Nat) (l : List (Nd × Nd)) : Prop := Reads w 32 A n (prCells l)
theorem PIn.len {w : World} {A : Option Addr} {n : Nat} {l : List (Nd × Nd)} (h : PIn w A n l) : n = l.length := by
  have := h.1
  rw [prCells_length] at this
  omega
theorem PIn.keep {w w' : World} {A : Option Addr} {n : Nat} {l : List (Nd × Nd)} (h : PIn w A n l) (hb : Below w.heap.size w w') : PIn w' A n l := Reads.keep h hb
theorem PIn.row {w : World} {A : Option Addr} {n : Nat} {l : List (Nd × Nd)} (h : PIn w A n l) (i : Nat) (hi : i < l.length) : ∃ g off, A = some ⟨g, off, none⟩ ∧ g < w.heap.size ∧ ∀ j u, (ndC2 l[i].1 l[i].2)[j]? = some u → w.cell? ⟨g, off + i * 32 + j, none⟩ = some u := by
  obtain ⟨g, off, rfl, hg, hc⟩ := h.2 (by have := h.len; omega)
  refine ⟨g, off, rfl, hg, fun j u hu => ?_⟩
  have := hc _ _ (prCells_get l i hi j u hu)
  rwa [← Nat.add_assoc] at this
theorem PIn.cell {w : World} {g off n : Nat} {l : List (Nd × Nd)} (h : PIn w (some ⟨g, off, none⟩) n l) (i : Nat) (hi : i < l.length) : ∀ j u, (ndC2 l[i].1 l[i].2)[j]? = some u → w.cell? ⟨g, off + i * 32 + j, none⟩ = some u := by
  obtain ⟨g', off', he, _, hc⟩ := h.row i hi
  injection he with he
  injection he with e1 e2
  subst e1 e2
  exact hc
section
variable {w w0 : World} {G : List Nat} {L : List Ent} {R : List Thing} {ops : Array Oper} {rest : List Oper} {o : Oper} {a : Act} {Q : Exit → Act → World → Prop} {s x x0 x1 : Operand} {v y : Value} {xs ys : List (Nd × Nd)} {m : Nat} {F : Thing → List Thing} {p q : Nd}
end
section
variable {w : World} {o : Oper} {a : Act} {x0 x1 : Operand} {x y : Nd}
end
end Go.Proofs.YtbbdnlcjjcmllaaDoor
namespace Go.Thg
open Go Go.RowKit Go.Bul
end Go.Thg
namespace Go.Proofs.YtbbdnlcjjcmllaaDoor
open Go Go.RowKit Go.Bul Go.Thg Go.Lin
end Go.Proofs.YtbbdnlcjjcmllaaDoor
namespace Go.Bul
open Go
end Go.Bul
namespace Go.Lin
open Go Go.Bul
end Go.Lin
namespace Go.Proofs.YtbbdnlcjjcmllaaDoor
open Go Go.RowKit Go.Bul Go.Thg Go.Lin
end Go.Proofs.YtbbdnlcjjcmllaaDoor
