/- Plain law of extraction: two chains that start with different values at a step and end alike have a collision between. No condition, no program. -/
import Derived.Test.YtpigmibaeoceaaaDoorPce
namespace Go.Bul
/-- Two different values of a chain at a step that lead to the same end. -/
structure Near (leaf c k : Nat) (P Q : List Nat) : Prop where
  p : P.length = 16
  q : Q.length = 16
  pb : Bytes P
  qb : Bytes Q
  ne : P ≠ Q
  end_ : advV leaf c k (15 - k) P = advV leaf c k (15 - k) Q
theorem Near.lt {leaf c k : Nat} {P Q : List Nat} (h : Near leaf c k P Q) (hk : k ≤ 15) : k < 15 := by
  rcases Nat.lt_or_ge k 15 with h1 | h1
  · exact h1
  · have := h.end_
    rw [show 15 - k = 0 by omega] at this
    exact absurd this h.ne
theorem Near.step {leaf c k : Nat} {P Q : List Nat} (h : Near leaf c k P Q) (hk : k < 15) (hne : stepV leaf c k P ≠ stepV leaf c k Q) : Near leaf c (k + 1) (stepV leaf c k P) (stepV leaf c k Q) := by
  refine ⟨stepV_length _ _ _ _, stepV_length _ _ _ _, bytes_stepV _ _ _ _, bytes_stepV _ _ _ _, hne, ?_⟩
  have := h.end_
  rw [show 15 - k = 15 - (k + 1) + 1 by omega] at this
  exact this
/-- The signatures of one seed: the value of the second one leads to that of the first one. -/
theorem values_lead (seed : List Nat) (leaf : Nat) (a b : List Nat) (c : Nat) (hc : c < 35) (hlt : (split b).getD c 0 < (split a).getD c 0) :
    piece (valuesV seed leaf fun i => (split a).getD i 0) c = advV leaf c ((split b).getD c 0) ((split a).getD c 0 - (split b).getD c 0) (piece (valuesV seed leaf fun i => (split b).getD i 0) c) := by
  rw [valuesV, valuesV, piece_pieces (values_f_length seed leaf _) c 35 hc, piece_pieces (values_f_length seed leaf _) c 35 hc]
  have e3 := advV_add leaf c ((split b).getD c 0) 0 ((split a).getD c 0 - (split b).getD c 0) (firstV seed leaf c)
  rw [Nat.zero_add, show (split b).getD c 0 + ((split a).getD c 0 - (split b).getD c 0) = (split a).getD c 0 by omega] at e3
  exact e3.symm
end Go.Bul
