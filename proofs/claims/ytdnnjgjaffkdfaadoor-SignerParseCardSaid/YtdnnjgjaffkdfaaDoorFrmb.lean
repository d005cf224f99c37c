/- From the rows' openings to the contracts, for arguments of any kind that reads: what was handed in reads again wherever all that lay before stays; bytes, texts, arrays of bytes. -/
import Derived.Test.YtdnnjgjaffkdfaaDoorFrm
import Derived.WideKeyArgs
import Derived.ChangeMaps5
namespace Go.Proofs.YtdnnjgjaffkdfaaDoor
open Go Go.RowKit Go.WideShapes Go.ChangeShapes Go.ChangeAt Go.Bul
section
variable {H : Type} {enc : TypeId × Value → H} {P : Program}
theorem same_of_below {W W' : World} (hb : Below W.heap.size W W') (p : MemPlace) (hp : p.block < W.heap.size) : W.sameAt W' p := by
  cases p with
  | cell b off => exact hb.cell (p := ⟨b, off, none⟩) hp
  | map b => exact hb.block b hp
theorem all_stay (hl : laidOutB P = true) {W W' : World} {sp : Nat → Bool} : ∀ {ts : List TypeId} {vs : List Value} {ds : List (DataW H)} {ps : List MemPlace}, (∀ t ∈ ts, P.readableRec t = true ∧ t < P.types.size) →
    DataW.TrodAll enc P W 0 (fun _ => true) true ts vs ds ps → (∀ p ∈ ps, W.sameAt W' p) → (∀ p ∈ ps, sp p.block = true) → DataW.TrodAll enc P W' 0 sp true ts vs ds ps
  | [], vs, ds, ps, _, h, _, _ => by
    obtain ⟨rfl, rfl, rfl⟩ := trodAll_nil h
    exact trodAll_mk0
  | t :: ts, vs, ds, ps, ht, h, hs, hp => by
    obtain ⟨v0, vs0, d0, ds0, p0, q0, rfl, rfl, rfl, h0, r0⟩ := trodAll_cons h
    refine trodAll_cons_mk (WideElems.Trod_stays hl (ht t (by simp)).1 (ht t (by simp)).2 h0 (fun p hp' => hs p (by simp [hp'])) (fun p hp' => hp p (by simp [hp']))) (all_stay hl (fun t' ht' => ht t' (by simp [ht'])) r0 (fun p hp' => hs p (by simp [hp'])) (fun p hp' => hp p (by simp [hp'])))
end
theorem laid_book : laidOutB Tryd.prog = true := by kernel_rfl
end Go.Proofs.YtdnnjgjaffkdfaaDoor
