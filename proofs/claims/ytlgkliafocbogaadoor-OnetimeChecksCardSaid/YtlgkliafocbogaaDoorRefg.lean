/- Small lemmas: guarded operations, equality of arrays, what stays of a Hash and of rows. -/
import Derived.Test.YtlgkliafocbogaaDoorRefd
import Derived.Test.YtlgkliafocbogaaDoorSum
namespace Go.Bul
open Go
theorem quiet_wanted {P : Program} {ops : Array Oper} {C : World → Prop} {o : Oper} {a : Act} {K : Act → Prop} (hg : Region.wanted o (yielded ops a.tmps) = true)
    (h : ∃ v, (∀ w, C w → o.quietAt P a C w v) ∧ K (a.put o.dst v)) : if Region.wanted o (yielded ops a.tmps) then o.quiet P a C K else K (a.put o.dst undef) := by
  rw [if_pos hg]
  exact h
/-- A guarded operation that is wanted, taken as one without a guard. -/
theorem wpList_unguard {P : Program} {ops : Array Oper} {Q : Exit → Act → World → Prop} {a : Act} {w : World} {rest : List Oper} {o : Oper} (hw : Region.wanted o (yielded ops a.tmps) = true)
    (h : wpList P ops Q ({ o with guard := none } :: rest) a w) : wpList P ops Q (o :: rest) a w := by
  unfold wpList at h ⊢
  rw [if_pos hw]
  rw [if_pos (by simp [Region.wanted])] at h
  exact h
end Go.Bul
namespace Go.Proofs.YtlgkliafocbogaaDoor
open Go Go.RowKit Go.Bul
theorem eq_b32 (l m : List Nat) (hl : l.length = 32) (hm : m.length = 32) (W : World) : (Op.equalIn 10000 45 (.agg (cellsOf .u8 l)) (.agg (cellsOf .u8 m))).run Tryd.prog W = .ok (l == m) W :=
  run_equalIn_nums W 9998 l m Tryd.underlying45 Tryd.underlying5 size_u8 hl hm
theorem self_b32 (l : List Nat) (hl : l.length = 32) (W : World) : (Op.equalIn 10000 45 (.agg (cellsOf .u8 l)) (.agg (cellsOf .u8 l))).run Tryd.prog W = .ok true W := by
  rw [eq_b32 l l hl hl]; simp
theorem self_dig (l : List Nat) (hl : l.length = 32) (W : World) : (Op.equalIn 10000 93 (.agg (cellsOf .u8 l)) (.agg (cellsOf .u8 l))).run Tryd.prog W = .ok true W := by
  rw [eq_dig l l hl hl]; simp
theorem eq_b16 (l m : List Nat) (hl : l.length = 16) (hm : m.length = 16) (W : World) : (Op.equalIn 10000 22 (.agg (cellsOf .u8 l)) (.agg (cellsOf .u8 m))).run Tryd.prog W = .ok (l == m) W :=
  run_equalIn_nums W 9998 l m Tryd.underlying22 Tryd.underlying5 size_u8 hl hm
theorem self_b16 (l : List Nat) (hl : l.length = 16) (W : World) : (Op.equalIn 10000 22 (.agg (cellsOf .u8 l)) (.agg (cellsOf .u8 l))).run Tryd.prog W = .ok true W := by
  rw [eq_b16 l l hl hl]; simp
theorem Rd.of_block_take {w : World} {ok : Nat → Prop} {t : TypeId} {g : Nat} {xs : List Nat} (h : Blk w g t (cellsOf .u8 xs)) (hb : Bytes xs) (ho : ok g) (k : Nat) (hk : k ≤ xs.length) : Rd w ok (some ⟨g, 0, none⟩) k (xs.take k) := by
  have := (Rd.of_block h hb ho).take k
  rwa [show min xs.length k = k by omega] at this
theorem cellsOf_whole (k : IntKind) (xs : List Nat) (n : Nat) (h : xs.length = n) : (cellsOf k xs).extract 0 (0 + n) = cellsOf k xs := by simp [← h]
theorem two_blocks (w : World) (t t' : TypeId) (cs cs' X : Array Value) : Blk (((w.alloc (.cells cs t)).alloc (.cells cs' t')).setRow w.heap.size X) (w.heap.size + 1) t' cs' :=
  (Blk.new' _ _ _ _ (by simp)).rowFar (by omega) _
theorem HashAt.only {w w' : World} {g k : Nat} {l : List Nat} (h : HashAt w k l) (ho : Only g w w') (hne : k ≠ g) : HashAt w' k l := by
  obtain ⟨st, blk, hB, h2⟩ := h.ex
  exact ⟨h.bytes, h.size, st, blk, hB.only ho hne, h2⟩
theorem HashAt.lt {w : World} {g : Nat} {l : List Nat} (h : HashAt w g l) : g < w.heap.size := by
  obtain ⟨_, _, hB, _⟩ := h.ex
  exact hB.lt
theorem Rd.only {w w' : World} {ok : Nat → Prop} {g n : Nat} {A : Option Addr} {bs : List Nat} (h : Rd w ok A n bs) (ho : Only g w w') (hne : ∀ b, ok b → b ≠ g) : Rd w' ok A n bs :=
  h.keep ho.size fun b hb hlt => ho.block b hlt (by rintro ⟨⟩; exact hne _ hb rfl)
theorem OwnB.only {w w' : World} {base g : Nat} {v : Value} {xs : List Nat} (h : OwnB w base v xs) (ho : Only g w w') (hg : g < base) : OwnB w' base v xs :=
  World.ownsRow.kept h ho (.inr (fun he => by have := (h.block_ge he).1; omega))
/-- A Hash is left alone by an append onto a row of the call's own. -/
theorem HashAt.grown {w w' : World} {base g : Nat} {v : Value} {xs l : List Nat} (h : HashAt w g l) (hv : OwnB w base v xs) (hg : w.grownBy w' v.ownBlock) (hlt : g < base) : HashAt w' g l :=
  h.of_block (hg.block g h.lt (fun he => by have := (hv.block_ge he.symm).1; omega))
theorem zero_b16 : (Tryd.prog.info? 22).map (·.zero) = some (some (.agg (cellsOf .u8 (List.replicate 16 0)))) := by kernel_rfl
theorem size_b16 : (Tryd.prog.info? 22).map (·.size) = some 16 := by kernel_rfl
end Go.Proofs.YtlgkliafocbogaaDoor
