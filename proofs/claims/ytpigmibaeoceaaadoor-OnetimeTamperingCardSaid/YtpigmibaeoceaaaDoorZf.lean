/- An array of words without sign that came in. Arrays of two or three integers that came in. The types of one-time signatures: sizes and zero values. Plain arithmetic of one-time signatures: digits, checksums, chains over the first half of SHA-256. No condition, no program. -/
import Derived.Test.YtpigmibaeoceaaaDoorZe
import Derived.Test.YtpigmibaeoceaaaDoorHeap
import Derived.Test.YtpigmibaeoceaaaDoorZa
namespace Go.Proofs.YtpigmibaeoceaaaDoor
open Go Go.RowKit Go.WideShapes Go.ChangeShapes Go.ChangeAt Go.Bul
theorem nat_arg {H : Type} {enc : TypeId × Value → H} {P : Program} {W : World} {base n : Nat} {t e : TypeId} {q : IntKind} {v : Value} {d : DataW H} {p : List MemPlace} (ht : P.underlying t = some (.array n e)) (he : P.underlying e = some (.int q)) (hc : P.cellsOf e = 1) (hct : P.cellsOf t = n) (hq : q.min = 0)
    (hok : Value.okWide P W .any base t v) (h : DataW.Trod enc P W 0 (fun _ => true) true t v d p) : ∃ zs : List Nat, v = .agg (cellsOf q zs) ∧ zs.length = n ∧ ∀ i, nth zs i < (q.max + 1).toNat := by
  obtain ⟨zs, rfl, hl, hw⟩ := ints_arg ht he hc hct hok h
  have hr : ∀ z ∈ zs, 0 ≤ z ∧ z ≤ q.max := fun z hz => by
    have := (Go.Lit.wf_int_iff q z).1 (hw z hz)
    rw [hq] at this
    exact this
  have hmax : 0 ≤ q.max := by
    cases zs with
    | nil => cases q <;> decide
    | cons z zs => have := hr z (by simp); omega
  refine ⟨zs.map Int.toNat, ?_, by simp [hl], fun i => ?_⟩
  · congr 1
    apply Array.ext'
    simp only [cellsOf, vals, List.map_map]
    refine List.map_congr_left fun z hz => ?_
    have := hr z hz
    simp only [Function.comp]
    congr 1
    omega
  · unfold nth
    rw [List.getD_eq_getElem?_getD]
    rcases Nat.lt_or_ge i zs.length with h1 | h1
    · rw [List.getElem?_eq_getElem (by simpa using h1)]
      have := hr zs[i] (List.getElem_mem h1)
      simp only [List.getElem_map, Option.getD_some]
      omega
    · rw [List.getElem?_eq_none (by simpa using h1)]
      simp only [Option.getD_none]
      omega
end Go.Proofs.YtpigmibaeoceaaaDoor
namespace Go.Proofs.YtpigmibaeoceaaaDoor
open Go Go.RowKit Go.WideShapes Go.ChangeShapes Go.ChangeAt Go.Bul
end Go.Proofs.YtpigmibaeoceaaaDoor
namespace Go.Proofs.YtpigmibaeoceaaaDoor
open Go Go.RowKit Go.Bul
theorem row_a16 : RowTy Tryd.prog 22 16 := ⟨⟨_, Tryd.underlying22, rfl, by kernel_rfl⟩⟩
theorem row_a32 : RowTy Tryd.prog 41 32 := ⟨⟨_, Tryd.underlying41, rfl, by kernel_rfl⟩⟩
theorem row_i35 : RowTy Tryd.prog 56 35 := ⟨⟨_, Tryd.underlying56, rfl, by kernel_rfl⟩⟩
theorem row_val : RowTy Tryd.prog 34 16 := ⟨⟨_, Tryd.underlying34, rfl, by kernel_rfl⟩⟩
theorem row_e35 : RowTy Tryd.prog 25 560 := ⟨⟨_, Tryd.underlying25, rfl, by kernel_rfl⟩⟩
theorem row_v35 : RowTy Tryd.prog 36 560 := ⟨⟨_, Tryd.underlying36, rfl, by kernel_rfl⟩⟩
theorem row_sig : RowTy Tryd.prog 26 560 := ⟨⟨_, Tryd.underlying26, rfl, by kernel_rfl⟩⟩
theorem one_u8 : OneTy Tryd.prog 5 := ⟨⟨_, Tryd.underlying5, rfl, by kernel_rfl⟩⟩
theorem one_int : OneTy Tryd.prog 3 := ⟨⟨_, Tryd.underlying3, rfl, by kernel_rfl⟩⟩
theorem zero_a16 : ZeroTy Tryd.prog 22 16 (cellsOf .u8 (zeros 16)) := ⟨⟨.agg _, by kernel_rfl, rfl, zeros_size _ _⟩⟩
theorem zero_a32' : ZeroTy Tryd.prog 41 32 (cellsOf .u8 (zeros 32)) := ⟨⟨.agg _, by kernel_rfl, rfl, zeros_size _ _⟩⟩
theorem zero_i35' : ZeroTy Tryd.prog 56 35 (cellsOf .i64 (zeros 35)) := ⟨⟨.agg _, by kernel_rfl, rfl, zeros_size _ _⟩⟩
theorem zero_val : ZeroTy Tryd.prog 34 16 (cellsOf .u8 (zeros 16)) := ⟨⟨.agg _, by kernel_rfl, rfl, zeros_size _ _⟩⟩
theorem zero_e35 : ZeroTy Tryd.prog 25 560 (cellsOf .u8 (zeros 560)) := ⟨⟨.agg _, by kernel_rfl, rfl, zeros_size _ _⟩⟩
theorem zero_v35 : ZeroTy Tryd.prog 36 560 (cellsOf .u8 (zeros 560)) := ⟨⟨.agg _, by kernel_rfl, rfl, zeros_size _ _⟩⟩
theorem zero_sig : ZeroTy Tryd.prog 26 560 (cellsOf .u8 (zeros 560)) := ⟨⟨.agg _, by kernel_rfl, rfl, zeros_size _ _⟩⟩
theorem arr_a16 : ArrTy Tryd.prog 22 := ⟨⟨_, _, 1, Tryd.underlying22, by kernel_rfl⟩⟩
theorem arr_val : ArrTy Tryd.prog 34 := ⟨⟨_, _, 1, Tryd.underlying34, by kernel_rfl⟩⟩
theorem arr_sig : ArrTy Tryd.prog 26 := ⟨⟨_, _, 16, Tryd.underlying26, by kernel_rfl⟩⟩
end Go.Proofs.YtpigmibaeoceaaaDoor
namespace Go.Bul
/-- The digits of a digest of 16 bytes. -/
def dig (d : List Nat) (i : Nat) : Nat := if i % 2 = 0 then d.getD (i / 2) 0 / 16 else d.getD (i / 2) 0 % 16
/-- The checksum of the first n digits. -/
def cks (d : List Nat) : Nat → Nat
  | 0 => 0
  | n + 1 => cks d n + (15 - dig d n)
def digits (d : List Nat) (n : Nat) : List Nat := (List.range n).map (dig d)
def split (d : List Nat) : List Nat := digits d 32 ++ [cks d 32 / 256, cks d 32 / 16 % 16, cks d 32 % 16]
theorem digits_length (d : List Nat) (n : Nat) : (digits d n).length = n := by simp [digits]
theorem digits_succ (d : List Nat) (n : Nat) : digits d (n + 1) = digits d n ++ [dig d n] := by simp [digits, List.range_succ]
theorem digits_getD (d : List Nat) (n i : Nat) (h : i < n) : (digits d n).getD i 0 = dig d i := by simp [digits, List.getD, h]
theorem getD_left (l r : List Nat) (i : Nat) (h : i < l.length) : (l ++ r).getD i 0 = l.getD i 0 := by
  simp only [List.getD, List.getElem?_append_left h]
theorem getD_right (l r : List Nat) (i : Nat) (h : l.length ≤ i) : (l ++ r).getD i 0 = r.getD (i - l.length) 0 := by
  simp only [List.getD, List.getElem?_append_right h]
theorem split_length (d : List Nat) : (split d).length = 35 := by simp [split, digits_length]
theorem dig_le {d : List Nat} (h : Bytes d) (i : Nat) : dig d i ≤ 15 := by
  have := h.getD (i / 2)
  unfold dig; split <;> omega
theorem cks_le (d : List Nat) : ∀ n, cks d n ≤ 15 * n
  | 0 => Nat.le_refl _
  | n + 1 => by have := cks_le d n; simp only [cks]; omega
theorem split_lo (d : List Nat) (i : Nat) (h : i < 32) : (split d).getD i 0 = dig d i := by
  rw [split, getD_left _ _ _ (by rw [digits_length]; exact h), digits_getD _ _ _ h]
theorem split_hi (d : List Nat) : (split d).getD 32 0 = cks d 32 / 256 ∧ (split d).getD 33 0 = cks d 32 / 16 % 16 ∧ (split d).getD 34 0 = cks d 32 % 16 := by
  refine ⟨?_, ?_, ?_⟩ <;> (rw [split, getD_right _ _ _ (by rw [digits_length]; omega), digits_length]; rfl)
theorem split_le {d : List Nat} (h : Bytes d) (i : Nat) : (split d).getD i 0 ≤ 15 := by
  have h1 := cks_le d 32
  have h2 := split_hi d
  by_cases h0 : i < 32
  · rw [split_lo d i h0]; exact dig_le h i
  · rcases (show i = 32 ∨ i = 33 ∨ i = 34 ∨ 35 ≤ i by omega) with rfl | rfl | rfl | h3
    · omega
    · omega
    · omega
    · rw [List.getD_eq_getElem?_getD, List.getElem?_eq_none (by rw [split_length]; exact h3)]; simp
/-- Digits that are nowhere lower have no higher checksum; one that differs, a lower one. -/
theorem cks_mono {a b : List Nat} (hb : Bytes b) : ∀ n, (∀ i, i < n → dig a i ≤ dig b i) → cks b n ≤ cks a n ∧ ((∃ i, i < n ∧ dig a i ≠ dig b i) → cks b n < cks a n)
  | 0, _ => ⟨Nat.le_refl _, fun ⟨i, h, _⟩ => absurd h (by omega)⟩
  | n + 1, h => by
    obtain ⟨h1, h2⟩ := cks_mono hb n (fun i hi => h i (by omega))
    have h3 := h n (by omega)
    have h4 := dig_le hb n
    simp only [cks]
    refine ⟨by omega, fun ⟨i, hi, hne⟩ => ?_⟩
    rcases (show i < n ∨ i = n by omega) with hi | rfl
    · have := h2 ⟨i, hi, hne⟩
      omega
    · omega
theorem dig_inj {a b : List Nat} (ha : a.length = 16) (hb : b.length = 16) (h : ∀ i, i < 32 → dig a i = dig b i) : a = b := by
  refine List.ext_getElem (by rw [ha, hb]) (fun i h1 h2 => ?_)
  have e1 := h (2 * i) (by omega)
  have e2 := h (2 * i + 1) (by omega)
  simp only [dig, show 2 * i % 2 = 0 by omega, show (2 * i + 1) % 2 = 1 by omega, show 2 * i / 2 = i by omega, show (2 * i + 1) / 2 = i by omega, if_true, Nat.one_ne_zero, if_false] at e1 e2
  simp only [List.getD, List.getElem?_eq_getElem h1, List.getElem?_eq_getElem h2, Option.getD_some] at e1 e2
  omega
/-- Of two different digests each has a digit that is lower than the other's. -/
theorem some_lower {a b : List Nat} (ha : a.length = 16) (hb : b.length = 16) (hB : Bytes b) (hne : a ≠ b) : ∃ i, i < 35 ∧ (split b).getD i 0 < (split a).getD i 0 := by
  refine Classical.byContradiction fun hno => ?_
  have hall : ∀ i, i < 35 → (split a).getD i 0 ≤ (split b).getD i 0 := fun i hi => Nat.le_of_not_lt fun h => hno ⟨i, hi, h⟩
  have hd : ∀ i, i < 32 → dig a i ≤ dig b i := fun i hi => by
    have := hall i (by omega)
    rwa [split_lo a i hi, split_lo b i hi] at this
  have hex : ∃ i, i < 32 ∧ dig a i ≠ dig b i := Classical.byContradiction fun h => hne (dig_inj ha hb fun i hi => Classical.byContradiction fun h' => h ⟨i, hi, h'⟩)
  have h1 := (cks_mono hB 32 hd).2 hex
  have h32 := hall 32 (by omega)
  have h33 := hall 33 (by omega)
  have h34 := hall 34 (by omega)
  obtain ⟨a2, a3, a4⟩ := split_hi a
  obtain ⟨b2, b3, b4⟩ := split_hi b
  omega
/-- The first chain whose digit is lower in b. -/
def lower (a b : List Nat) (n : Nat) : Option Nat := (List.range n).find? fun i => decide ((split b).getD i 0 < (split a).getD i 0)
theorem lower_succ (a b : List Nat) (n : Nat) : lower a b (n + 1) = (lower a b n).or (if (split b).getD n 0 < (split a).getD n 0 then some n else none) := by
  simp only [lower, List.range_succ, List.find?_append]
  congr 1
  by_cases h : (split b).getD n 0 < (split a).getD n 0
  · rw [if_pos h, List.find?_cons_of_pos (by simpa using h)]
  · rw [if_neg h, List.find?_cons_of_neg (by simpa using h)]
    rfl
theorem lower_none_iff (a b : List Nat) (n : Nat) : lower a b n = none ↔ ∀ i, i < n → ¬ (split b).getD i 0 < (split a).getD i 0 := by
  simp [lower, List.find?_eq_none]
theorem lower_some {a b : List Nat} {n i : Nat} (h : lower a b n = some i) : i < n ∧ (split b).getD i 0 < (split a).getD i 0 := by
  have h1 := List.find?_some h
  have h2 := List.mem_of_find?_eq_some h
  exact ⟨by simpa using h2, by simpa using h1⟩
theorem lower_ne {a b : List Nat} (ha : a.length = 16) (hb : b.length = 16) (hB : Bytes b) (hne : a ≠ b) : ∃ i, lower a b 35 = some i := by
  cases h : lower a b 35 with
  | some i => exact ⟨i, rfl⟩
  | none =>
    obtain ⟨i, hi, hlt⟩ := some_lower ha hb hB hne
    exact absurd hlt ((lower_none_iff a b 35).1 h i hi)

/-! ### Chains -/
def headb (t leaf : Nat) : List Nat := [t, leaf / 16777216 % 256, leaf / 65536 % 256, leaf / 256 % 256, leaf % 256]
def firstV (seed : List Nat) (leaf chain : Nat) : List Nat := half (headb 2 leaf ++ chain :: seed)
def stepV (leaf chain s : Nat) (v : List Nat) : List Nat := half (headb 3 leaf ++ chain :: s :: v)
def advV (leaf chain : Nat) : Nat → Nat → List Nat → List Nat
  | _, 0, v => v
  | s, n + 1, v => advV leaf chain (s + 1) n (stepV leaf chain s v)
theorem advV_add (leaf chain : Nat) : ∀ (n s m : Nat) (v : List Nat), advV leaf chain (s + n) m (advV leaf chain s n v) = advV leaf chain s (n + m) v
  | 0, s, m, v => by simp [advV]
  | n + 1, s, m, v => by
    rw [advV, show s + (n + 1) = s + 1 + n by omega, advV_add leaf chain n (s + 1) m, show n + 1 + m = n + m + 1 by omega, advV]
theorem advV_succ (leaf chain s n : Nat) (v : List Nat) : advV leaf chain s (n + 1) v = stepV leaf chain (s + n) (advV leaf chain s n v) := by
  rw [← advV_add leaf chain n s 1 v]
  rfl
theorem stepV_length (leaf chain s : Nat) (v : List Nat) : (stepV leaf chain s v).length = 16 := half_length _
theorem firstV_length (seed : List Nat) (leaf chain : Nat) : (firstV seed leaf chain).length = 16 := half_length _
theorem advV_length {leaf chain : Nat} : ∀ (n s : Nat) {v : List Nat}, v.length = 16 → (advV leaf chain s n v).length = 16
  | 0, _, _, h => h
  | n + 1, s, _, _ => advV_length n (s + 1) (stepV_length leaf chain s _)
theorem bytes_headb {t leaf : Nat} (h : t < 256) : Bytes (headb t leaf) := by
  intro x hx
  simp only [headb, List.mem_cons, List.not_mem_nil, or_false] at hx
  omega
theorem bytes_stepV (leaf chain s : Nat) (v : List Nat) : Bytes (stepV leaf chain s v) := bytes_half _
theorem bytes_firstV (seed : List Nat) (leaf chain : Nat) : Bytes (firstV seed leaf chain) := bytes_half _
theorem bytes_advV {leaf chain : Nat} : ∀ (n s : Nat) {v : List Nat}, Bytes v → Bytes (advV leaf chain s n v)
  | 0, _, _, h => h
  | n + 1, s, _, _ => bytes_advV n (s + 1) (bytes_stepV leaf chain s _)
/-- The public value of ends, laid one after the other. -/
def comp (leaf : Nat) (ends : List Nat) : List Nat := half (headb 4 leaf ++ ends)
/-- The piece of 16 bytes with an index. -/
def piece (E : List Nat) (i : Nat) : List Nat := (E.drop (16 * i)).take 16
/-- n pieces. -/
def pieces (f : Nat → List Nat) (n : Nat) : List Nat := (List.range n).flatMap f
theorem pieces_succ (f : Nat → List Nat) (n : Nat) : pieces f (n + 1) = pieces f n ++ f n := by simp [pieces, List.range_succ]
theorem pieces_length {f : Nat → List Nat} (hf : ∀ i, (f i).length = 16) : ∀ n, (pieces f n).length = 16 * n
  | 0 => rfl
  | n + 1 => by rw [pieces_succ, List.length_append, pieces_length hf n, hf]; omega
theorem piece_length {E : List Nat} {n i : Nat} (h : E.length = 16 * n) (hi : i < n) : (piece E i).length = 16 := by
  rw [piece, List.length_take, List.length_drop, h]; omega
theorem bytes_piece {E : List Nat} (h : Bytes E) (i : Nat) : Bytes (piece E i) := (h.drop _).take _
theorem bytes_pieces {f : Nat → List Nat} (hf : ∀ i, Bytes (f i)) : ∀ n, Bytes (pieces f n)
  | 0 => Bytes.nil
  | n + 1 => by rw [pieces_succ]; exact (bytes_pieces hf n).append (hf n)
theorem piece_pieces {f : Nat → List Nat} (hf : ∀ i, (f i).length = 16) (i : Nat) : ∀ n, i < n → piece (pieces f n) i = f i
  | 0, h => absurd h (by omega)
  | n + 1, h => by
    have hl := pieces_length hf n
    rw [pieces_succ]
    rcases (show i < n ∨ i = n by omega) with h1 | rfl
    · have := piece_pieces hf i n h1
      rw [piece, List.drop_append_of_le_length (by omega), List.take_append_of_le_length (by rw [List.length_drop]; omega)]
      exact this
    · rw [piece, List.drop_append_of_le_length (by omega), List.drop_of_length_le (by omega), List.nil_append, List.take_of_length_le (by rw [hf]; omega)]
theorem pieces_piece {E : List Nat} : ∀ n, E.length = 16 * n → pieces (piece E) n = E := by
  have key : ∀ n, 16 * n ≤ E.length → pieces (piece E) n = E.take (16 * n) := by
    intro n
    induction n with
    | zero => intro _; simp [pieces]
    | succ n ih =>
      intro h
      rw [pieces_succ, ih (by omega), piece, show 16 * (n + 1) = 16 * n + 16 by omega, List.take_add]
  intro n h
  rw [key n (by omega), List.take_of_length_le (by omega)]
theorem pieces_congr {f g : Nat → List Nat} : ∀ n, (∀ i, i < n → f i = g i) → pieces f n = pieces g n
  | 0, _ => rfl
  | n + 1, h => by rw [pieces_succ, pieces_succ, pieces_congr n (fun i hi => h i (by omega)), h n (by omega)]
/-- The values of a signature, of a public key's ends; where a signature leads. -/
def valuesV (seed : List Nat) (leaf : Nat) (steps : Nat → Nat) : List Nat := pieces (fun i => advV leaf i 0 (steps i) (firstV seed leaf i)) 35
def lastV (leaf : Nat) (d E : List Nat) : List Nat := pieces (fun i => advV leaf i ((split d).getD i 0) (15 - (split d).getD i 0) (piece E i)) 35
theorem values_f_length (seed : List Nat) (leaf : Nat) (steps : Nat → Nat) (i : Nat) : (advV leaf i 0 (steps i) (firstV seed leaf i)).length = 16 := advV_length _ _ (firstV_length _ _ _)
theorem valuesV_length (seed : List Nat) (leaf : Nat) (steps : Nat → Nat) : (valuesV seed leaf steps).length = 560 := pieces_length (values_f_length seed leaf steps) 35
/-- A signature leads to the ends of its seed. -/
theorem last_of_values {d : List Nat} (hd : Bytes d) (seed : List Nat) (leaf : Nat) : lastV leaf d (valuesV seed leaf fun i => (split d).getD i 0) = valuesV seed leaf fun _ => 15 := by
  refine pieces_congr 35 fun i hi => ?_
  rw [valuesV, piece_pieces (values_f_length seed leaf _) i 35 hi]
  have h1 := split_le hd i
  have := advV_add leaf i ((split d).getD i 0) 0 (15 - (split d).getD i 0) (firstV seed leaf i)
  rw [Nat.zero_add, show (split d).getD i 0 + (15 - (split d).getD i 0) = 15 by omega] at this
  exact this
end Go.Bul
