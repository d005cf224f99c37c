/- Small lemmas: guarded operations, equality of arrays, what stays of a Hash and of rows. Contracts of the reference's half, Leaf, Join. -/
import Derived.Test.YtbbdnlcjjcmllaaDoorVo
import Derived.Test.YtbbdnlcjjcmllaaDoorVf
import Derived.Test.YtbbdnlcjjcmllaaDoorVj
namespace Go.Bul
open Go
theorem quiet_wanted {P : Program} {ops : Array Oper} {C : World → Prop} {o : Oper} {a : Act} {K : Act → Prop} (hg : Region.wanted o (yielded ops a.tmps) = true)
    (h : ∃ v, (∀ w, C w → o.quietAt P a C w v) ∧ K (a.put o.dst v)) : if Region.wanted o (yielded ops a.tmps) then o.quiet P a C K else K (a.put o.dst undef) := by
  rw [if_pos hg]
  exact h
end Go.Bul
namespace Go.Proofs.YtbbdnlcjjcmllaaDoor
open Go Go.RowKit Go.Bul
theorem eq_b16 (l m : List Nat) (hl : l.length = 16) (hm : m.length = 16) (W : World) : (Op.equalIn 10000 23 (.agg (cellsOf .u8 l)) (.agg (cellsOf .u8 m))).run Tryd.prog W = .ok (l == m) W :=
  run_equalIn_nums W 9998 l m Tryd.underlying23 Tryd.underlying5 size_u8 hl hm
theorem self_b16 (l : List Nat) (hl : l.length = 16) (W : World) : (Op.equalIn 10000 23 (.agg (cellsOf .u8 l)) (.agg (cellsOf .u8 l))).run Tryd.prog W = .ok true W := by
  rw [eq_b16 l l hl hl]; simp
theorem HashAt.only {w w' : World} {g k : Nat} {l : List Nat} (h : HashAt w k l) (ho : Only g w w') (hne : k ≠ g) : HashAt w' k l := by
  obtain ⟨st, blk, hB, h2⟩ := h.ex
  exact ⟨h.bytes, h.size, st, blk, hB.only ho hne, h2⟩
theorem HashAt.lt {w : World} {g : Nat} {l : List Nat} (h : HashAt w g l) : g < w.heap.size := by
  obtain ⟨_, _, hB, _⟩ := h.ex
  exact hB.lt
theorem Rd.only {w w' : World} {ok : Nat → Prop} {g n : Nat} {A : Option Addr} {bs : List Nat} (h : Rd w ok A n bs) (ho : Only g w w') (hne : ∀ b, ok b → b ≠ g) : Rd w' ok A n bs :=
  h.keep ho.size fun b hb hlt => ho.block b hlt (by rintro ⟨⟩; exact hne _ hb rfl)
theorem OwnB.only {w w' : World} {base g : Nat} {v : Value} {xs : List Nat} (h : OwnB w base v xs) (ho : Only g w w') (hg : g < base) : OwnB w' base v xs :=
  World.ownsRow.kept h ho (.inr (fun he => by have := (h.block_ge he).1; omega))
/-- A Hash is left alone by an append onto a row of the call's own. -/
theorem HashAt.grown {w w' : World} {base g : Nat} {v : Value} {xs l : List Nat} (h : HashAt w g l) (hv : OwnB w base v xs) (hg : w.grownBy w' v.ownBlock) (hlt : g < base) : HashAt w' g l :=
  h.of_block (hg.block g h.lt (fun he => by have := (hv.block_ge he.symm).1; omega))
end Go.Proofs.YtbbdnlcjjcmllaaDoor
namespace Go.Lin
open Go Go.Bul
end Go.Lin
namespace Go.Proofs.YtbbdnlcjjcmllaaDoor
open Go Go.RowKit Go.Bul Go.Thg Go.Lin
end Go.Proofs.YtbbdnlcjjcmllaaDoor
