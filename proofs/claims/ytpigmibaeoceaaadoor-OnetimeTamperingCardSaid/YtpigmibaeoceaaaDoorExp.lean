/- Plain law of extraction: two chains that start with different values at a step and end alike have a collision between. No condition, no program. -/
import Derived.Test.YtpigmibaeoceaaaDoorPce
namespace Go.Bul
/-- Two different values of a chain at a step that lead to the same end. -/
structure Near (leaf c k : Nat) (P Q : List Nat) : Prop where
  p : P.length = 16
  q : Q.length = 16
  pb : Bytes P
  qb : Bytes Q
  ne : P ≠ Q
  end_ : advV leaf c k (15 - k) P = advV leaf c k (15 - k) Q
theorem Near.lt {leaf c k : Nat} {P Q : List Nat} (h : Near leaf c k P Q) (hk : k ≤ 15) : k < 15 := by
  rcases Nat.lt_or_ge k 15 with h1 | h1
  · exact h1
  · have := h.end_
    rw [show 15 - k = 0 by omega] at this
    exact absurd this h.ne
theorem Near.step {leaf c k : Nat} {P Q : List Nat} (h : Near leaf c k P Q) (hk : k < 15) (hne : stepV leaf c k P ≠ stepV leaf c k Q) : Near leaf c (k + 1) (stepV leaf c k P) (stepV leaf c k Q) := by
  refine ⟨stepV_length _ _ _ _, stepV_length _ _ _ _, bytes_stepV _ _ _ _, bytes_stepV _ _ _ _, hne, ?_⟩
  have := h.end_
  rw [show 15 - k = 15 - (k + 1) + 1 by omega] at this
  exact this
theorem adv_one (leaf c k : Nat) (P : List Nat) : advV leaf c k (k + 1 - k) P = stepV leaf c k P := by
  rw [show k + 1 - k = 0 + 1 by omega]
  rfl
theorem piece_pieces_lt {f : Nat → List Nat} (i : Nat) : ∀ n, (∀ i, i < n → (f i).length = 16) → i < n → piece (pieces f n) i = f i
  | 0, _, h => absurd h (by omega)
  | n + 1, hf, h => by
    have hl := pieces_length_lt n fun i hi => hf i (by omega)
    rw [pieces_succ]
    rcases (show i < n ∨ i = n by omega) with h1 | rfl
    · have := piece_pieces_lt i n (fun i hi => hf i (by omega)) h1
      rw [piece, List.drop_append_of_le_length (by omega), List.take_append_of_le_length (by rw [List.length_drop]; omega)]
      exact this
    · rw [piece, List.drop_append_of_le_length (by omega), List.drop_of_length_le (by omega), List.nil_append, List.take_of_length_le (by rw [hf _ (by omega)]; omega)]
theorem piece_last {leaf : Nat} {d E : List Nat} (hE : E.length = 560) (i : Nat) (hi : i < 35) : piece (lastV leaf d E) i = advV leaf i ((split d).getD i 0) (15 - (split d).getD i 0) (piece E i) :=
  piece_pieces_lt i 35 (fun _ hi => advV_length _ _ (piece_length (n := 35) hE hi)) hi
/-- Where the ends agree, the values at a chain whose digit is lower agree, or they are near. -/
theorem near_of_last {leaf : Nat} {a b E F : List Nat} (ha : Bytes a) (hE : E.length = 560) (hF : F.length = 560) (hEb : Bytes E) (hFb : Bytes F) (h : lastV leaf a E = lastV leaf b F) (c : Nat) (hc : c < 35) (hlt : (split b).getD c 0 < (split a).getD c 0)
    (hne : piece E c ≠ advV leaf c ((split b).getD c 0) ((split a).getD c 0 - (split b).getD c 0) (piece F c)) :
    Near leaf c ((split a).getD c 0) (piece E c) (advV leaf c ((split b).getD c 0) ((split a).getD c 0 - (split b).getD c 0) (piece F c)) := by
  have h15 := split_le ha c
  have hp := piece_length (n := 35) hE hc
  have hq := piece_length (n := 35) hF hc
  refine ⟨hp, advV_length _ _ hq, bytes_piece hEb c, bytes_advV _ _ (bytes_piece hFb c), hne, ?_⟩
  have e1 := piece_last (leaf := leaf) (d := a) hE c hc
  have e2 := piece_last (leaf := leaf) (d := b) hF c hc
  rw [h, e2] at e1
  rw [← e1]
  have e3 := advV_add leaf c ((split a).getD c 0 - (split b).getD c 0) ((split b).getD c 0) (15 - (split a).getD c 0) (piece F c)
  rw [show (split b).getD c 0 + ((split a).getD c 0 - (split b).getD c 0) = (split a).getD c 0 by omega, show (split a).getD c 0 - (split b).getD c 0 + (15 - (split a).getD c 0) = 15 - (split b).getD c 0 by omega] at e3
  exact e3.symm
end Go.Bul
