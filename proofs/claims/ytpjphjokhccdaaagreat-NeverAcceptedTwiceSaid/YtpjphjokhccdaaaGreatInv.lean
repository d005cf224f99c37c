/- Regions whose order is drawn, by an invariant: what each operation that has been listed has left. -/
import Derived.Test.YtpjphjokhccdaaaGreatBase
namespace Go.Bul
open Go
theorem count_set : ∀ (l : List Bool) (i : Nat), l.getD i true = false → (l.set i true).countP (fun b => !b) + 1 = l.countP (fun b => !b)
  | [], i, h => by simp at h
  | b :: l, 0, h => by
    simp at h
    subst h
    simp
  | b :: l, i + 1, h => by
    have := count_set l i (by simpa using h)
    cases b <;> simp only [List.set_cons_succ, List.countP_cons] at this ⊢ <;> simp at this ⊢ <;> omega
section
variable {P : Program} {ops : Array Oper} {md : Region.Mode} {Q : Exit → Act → World → Prop}
theorem any_inv (Inv : Array Bool → Act → World → Prop)
    (hstep : ∀ listed a w i, Inv listed a w → i ∈ Region.ready md ops listed → ∀ K : Act → World → Prop, (∀ a' w', Inv (listed.setIfInBounds i true) a' w' → K a' w') → wpOp P ops Q i K a w)
    (hend : ∀ listed a w, Inv listed a w → Region.ready md ops listed = [] → Q .normal a w) :
    ∀ (fuel : Nat) (listed : Array Bool) (a : Act) (w : World), listed.toList.countP (fun b => !b) ≤ fuel → Inv listed a w → wpAny P md ops Q fuel listed a w
  | 0, listed, a, w, hc, h => by
    have hr : Region.ready md ops listed = [] := by
      cases hq : Region.ready md ops listed with
      | nil => rfl
      | cons i r =>
        have hi : i ∈ Region.ready md ops listed := by rw [hq]; simp
        have h1 := (mem_ready.1 hi).1
        have := count_set listed.toList i (by simpa [List.getD, Array.getD_eq_getD_getElem?] using h1)
        omega
    exact ⟨hr, hend _ _ _ h hr⟩
  | f + 1, listed, a, w, hc, h => ⟨hend _ _ _ h, fun i hi => hstep listed a w i h hi _ fun a' w' h' => any_inv Inv hstep hend f _ a' w' (by
      have h1 := (mem_ready.1 hi).1
      have := count_set listed.toList i (by simpa [List.getD, Array.getD_eq_getD_getElem?] using h1)
      simp only [Array.toList_setIfInBounds]
      omega) h'⟩
theorem wp_region_inv {id : Nat} {a : Act} {w : World} (hm : P.follows .mixedOrders = true) (Inv : Array Bool → Act → World → Prop)
    (h0 : Inv (Array.replicate ops.size false) a { w with drawn := w.drawn + 1 })
    (hstep : ∀ listed a w i, Inv listed a w → i ∈ Region.ready .any ops listed → ∀ K : Act → World → Prop, (∀ a' w', Inv (listed.setIfInBounds i true) a' w' → K a' w') → wpOp P ops Q i K a w)
    (hend : ∀ listed a w, Inv listed a w → Region.ready .any ops listed = [] → Q .normal a w) : (Code.region id ops true).wp P Q a w :=
  wp_region_any hm (any_inv Inv hstep hend _ _ _ _ (by simp [List.countP_replicate]) h0)
end
end Go.Bul
