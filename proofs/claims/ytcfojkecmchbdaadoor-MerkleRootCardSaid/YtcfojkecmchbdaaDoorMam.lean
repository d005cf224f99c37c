/- Contracts of merkle.Verify; known. -/
import Derived.Test.YtcfojkecmchbdaaDoorMal
namespace Go.Bul
open Go
theorem wpHeld_stepG {P : Program} {ops : Array Oper} {S : World → Prop} {K : Act → Prop} {a : Act} {o : Oper} {l : List Oper} {v : Value} (hg : Region.wanted o (yielded ops a.tmps) = true) (hy : ∀ w, S w → (execOp a.eval o).run P w = .ok (.value v) w)
    (h : ∀ K' : Act → Prop, (∀ a', wpHeld P ops S K l a' → K' a') → K' (a.put o.dst v)) : wpHeld P ops S K (o :: l) a :=
  ⟨v, .inl ⟨hg, hy⟩, h _ fun _ h => h⟩
theorem wpList_wanted {P : Program} {w : World} {ops : Array Oper} {rest : List Oper} {a : Act} {Q : Exit → Act → World → Prop} {dst : Option Tmp} {op : Op} {type : TypeId} {pos : String} {after : Array Edge} {g : Nat × Bool}
    (hw : Region.wanted ⟨dst, op, type, pos, after, some g⟩ (yielded ops a.tmps) = true) (h : wpList P ops Q (⟨dst, op, type, pos, after, none⟩ :: rest) a w) : wpList P ops Q (⟨dst, op, type, pos, after, some g⟩ :: rest) a w := by
  unfold wpList at h ⊢
  rw [if_pos hw]
  rw [if_pos (by simp [Region.wanted])] at h
  exact h
end Go.Bul
namespace Go.Proofs.YtcfojkecmchbdaaDoor
open Go Go.RowKit Go.Bul Go.Thg Go.Lin
theorem eq_nd (x y : Nd) (W : World) : (Op.equalIn 10000 27 (.agg (ndC x)) (.agg (ndC y))).run Tryd.prog W = .ok (decide (x = y)) W := by
  have h := run_equalIn_nums W 9998 x.val y.val Tryd.underlying27 Tryd.underlying5 (by kernel_rfl) x.len y.len
  have e : (x.val == y.val) = decide (x = y) := by
    by_cases hxy : x = y
    · subst hxy; simp
    · have : ¬ x.val = y.val := fun h => hxy (Nd.ext' h)
      simp [hxy, this]
  rw [e] at h
  exact h
set_option maxRecDepth 20000 in
set_option maxHeartbeats 4000000 in
theorem verify_yes (r x : Nd) (idx : Int) (A : Option Addr) (n c : Nat) (path : List Nd) (w : World) (hr : NIn w A n path) (hn : n ≤ 10) (h0 : 0 ≤ idx) (h1 : idx < 2 ^ n) (hT : Tab w) :
    Calls Tryd.prog 22 #[.agg (ndC r), .agg (ndC x), .int .i64 idx, .slice A n c] w fun e w' => e = .returned (.bool (decide (climbs idx 0 x path = r))) ∧ Below w.heap.size w w' := by
  have hM := Mem.start [] w
  have HF := Lib.hid (fun w' (hb : Below w.heap.size w w') => from_yes x idx A n c path w' (hr.keep hb) hn h0 h1 (hT.keep hb))
  generalize climbs idx 0 x path = Z at HF ⊢
  have hq := eq_nd Z r
  clear hr hn h0 h1 hT
  obtain ⟨d, hd⟩ : ∃ d, decide (Z = r) = d := ⟨_, rfl⟩
  rw [hd] at hq ⊢
  clear hd
  go_enter Tryd.func22, Tryd.ntmps22
  go_wp2_with (first | ((with_reducible refine (HF.out _ hM.below).mono ?_); rintro e w1 ⟨rfl, hb⟩; replace hM := hM.step hb; clear hb) | ((first | with_reducible refine at_load ?_ | ((with_reducible refine at_load_g ?_ ?_); (· rfl))); first | refine ll hM ?_ | refine lc hM ?_ | refine lp hM ?_) | ((with_reducible refine at_store ?_); first | (refine lw hM ?_; clear hM; intro wx hM) | (refine ls hM ?_; clear hM; intro wx hM) | (refine lt hM ?_; clear hM; intro wx hM)) | ((with_reducible refine at_alloc ?_); refine lz hM ?_; clear hM; intro gx wx hM) | ((with_reducible refine at_box ?_); refine lb hM ?_; clear hM; intro gx wx hM))
  go_ret
  exact ⟨rfl, hM.below⟩
end Go.Proofs.YtcfojkecmchbdaaDoor
