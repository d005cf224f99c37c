/- The types of one-time signatures: sizes and zero values. Plain arithmetic of one-time signatures: digits, checksums, chains over the first half of SHA-256. No condition, no program. Contracts of onetime's isLeaf, isChain, input, hash. Conditions: a leaf from 0 to 65535; fewer than 2^40 bytes. Contracts of onetime.first, advance. Conditions: leaf and chain in range, the table of constants in its variable. Contracts of onetime.Secret, Advance, Step: what they return in range, and out of it. -/
import Derived.Test.YtdnnjgjaffkdfaaDoorVr
import Derived.Test.YtdnnjgjaffkdfaaDoorVa
import Derived.Test.YtdnnjgjaffkdfaaDoorVg
import Derived.Test.YtdnnjgjaffkdfaaDoorVl
namespace Go.Proofs.YtdnnjgjaffkdfaaDoor.Once
open Go Go.RowKit Go.Bul Go.Bul.Hp
theorem row_a16 : RowTy Tryd.prog 22 16 := ⟨⟨_, Tryd.underlying22, rfl, by kernel_rfl⟩⟩
theorem row_a32 : RowTy Tryd.prog 44 32 := ⟨⟨_, Tryd.underlying44, rfl, by kernel_rfl⟩⟩
theorem row_i35 : RowTy Tryd.prog 111 35 := ⟨⟨_, Tryd.underlying111, rfl, by kernel_rfl⟩⟩
theorem row_val : RowTy Tryd.prog 108 16 := ⟨⟨_, Tryd.underlying108, rfl, by kernel_rfl⟩⟩
theorem row_e35 : RowTy Tryd.prog 23 560 := ⟨⟨_, Tryd.underlying23, rfl, by kernel_rfl⟩⟩
theorem row_v35 : RowTy Tryd.prog 109 560 := ⟨⟨_, Tryd.underlying109, rfl, by kernel_rfl⟩⟩
theorem row_sig : RowTy Tryd.prog 128 560 := ⟨⟨_, Tryd.underlying128, rfl, by kernel_rfl⟩⟩
theorem one_u8 : OneTy Tryd.prog 5 := ⟨⟨_, Tryd.underlying5, rfl, by kernel_rfl⟩⟩
theorem one_int : OneTy Tryd.prog 3 := ⟨⟨_, Tryd.underlying3, rfl, by kernel_rfl⟩⟩
theorem zero_a16 : ZeroTy Tryd.prog 22 16 (cellsOf .u8 (zeros 16)) := ⟨⟨.agg _, by kernel_rfl, rfl, zeros_size _ _⟩⟩
theorem zero_a32' : ZeroTy Tryd.prog 44 32 (cellsOf .u8 (zeros 32)) := ⟨⟨.agg _, by kernel_rfl, rfl, zeros_size _ _⟩⟩
theorem zero_i35' : ZeroTy Tryd.prog 111 35 (cellsOf .i64 (zeros 35)) := ⟨⟨.agg _, by kernel_rfl, rfl, zeros_size _ _⟩⟩
theorem zero_val : ZeroTy Tryd.prog 108 16 (cellsOf .u8 (zeros 16)) := ⟨⟨.agg _, by kernel_rfl, rfl, zeros_size _ _⟩⟩
theorem zero_e35 : ZeroTy Tryd.prog 23 560 (cellsOf .u8 (zeros 560)) := ⟨⟨.agg _, by kernel_rfl, rfl, zeros_size _ _⟩⟩
theorem zero_v35 : ZeroTy Tryd.prog 109 560 (cellsOf .u8 (zeros 560)) := ⟨⟨.agg _, by kernel_rfl, rfl, zeros_size _ _⟩⟩
theorem zero_sig : ZeroTy Tryd.prog 128 560 (cellsOf .u8 (zeros 560)) := ⟨⟨.agg _, by kernel_rfl, rfl, zeros_size _ _⟩⟩
theorem arr_a16 : ArrTy Tryd.prog 22 := ⟨⟨_, _, 1, Tryd.underlying22, by kernel_rfl⟩⟩
end Go.Proofs.YtdnnjgjaffkdfaaDoor.Once
namespace Go.Bul
/-- The digits of a digest of 16 bytes. -/
def dig (d : List Nat) (i : Nat) : Nat := if i % 2 = 0 then d.getD (i / 2) 0 / 16 else d.getD (i / 2) 0 % 16
/-- The checksum of the first n digits. -/
def cks (d : List Nat) : Nat → Nat
  | 0 => 0
  | n + 1 => cks d n + (15 - dig d n)
def digits (d : List Nat) (n : Nat) : List Nat := (List.range n).map (dig d)
def split (d : List Nat) : List Nat := digits d 32 ++ [cks d 32 / 256, cks d 32 / 16 % 16, cks d 32 % 16]
theorem digits_length (d : List Nat) (n : Nat) : (digits d n).length = n := by simp [digits]
theorem digits_succ (d : List Nat) (n : Nat) : digits d (n + 1) = digits d n ++ [dig d n] := by simp [digits, List.range_succ]
theorem digits_getD (d : List Nat) (n i : Nat) (h : i < n) : (digits d n).getD i 0 = dig d i := by simp [digits, List.getD, h]
theorem getD_left (l r : List Nat) (i : Nat) (h : i < l.length) : (l ++ r).getD i 0 = l.getD i 0 := by
  simp only [List.getD, List.getElem?_append_left h]
theorem getD_right (l r : List Nat) (i : Nat) (h : l.length ≤ i) : (l ++ r).getD i 0 = r.getD (i - l.length) 0 := by
  simp only [List.getD, List.getElem?_append_right h]
theorem split_length (d : List Nat) : (split d).length = 35 := by simp [split, digits_length]
theorem dig_le {d : List Nat} (h : Bytes d) (i : Nat) : dig d i ≤ 15 := by
  have := h.getD (i / 2)
  unfold dig; split <;> omega
theorem cks_le (d : List Nat) : ∀ n, cks d n ≤ 15 * n
  | 0 => Nat.le_refl _
  | n + 1 => by have := cks_le d n; simp only [cks]; omega
theorem split_lo (d : List Nat) (i : Nat) (h : i < 32) : (split d).getD i 0 = dig d i := by
  rw [split, getD_left _ _ _ (by rw [digits_length]; exact h), digits_getD _ _ _ h]
theorem split_hi (d : List Nat) : (split d).getD 32 0 = cks d 32 / 256 ∧ (split d).getD 33 0 = cks d 32 / 16 % 16 ∧ (split d).getD 34 0 = cks d 32 % 16 := by
  refine ⟨?_, ?_, ?_⟩ <;> (rw [split, getD_right _ _ _ (by rw [digits_length]; omega), digits_length]; rfl)
theorem split_le {d : List Nat} (h : Bytes d) (i : Nat) : (split d).getD i 0 ≤ 15 := by
  have h1 := cks_le d 32
  have h2 := split_hi d
  by_cases h0 : i < 32
  · rw [split_lo d i h0]; exact dig_le h i
  · rcases (show i = 32 ∨ i = 33 ∨ i = 34 ∨ 35 ≤ i by omega) with rfl | rfl | rfl | h3
    · omega
    · omega
    · omega
    · rw [List.getD_eq_getElem?_getD, List.getElem?_eq_none (by rw [split_length]; exact h3)]; simp
/-! ### Chains -/
def headb (t leaf : Nat) : List Nat := [t, leaf / 16777216 % 256, leaf / 65536 % 256, leaf / 256 % 256, leaf % 256]
def firstV (seed : List Nat) (leaf chain : Nat) : List Nat := half (headb 2 leaf ++ chain :: seed)
def stepV (leaf chain s : Nat) (v : List Nat) : List Nat := half (headb 3 leaf ++ chain :: s :: v)
def advV (leaf chain : Nat) : Nat → Nat → List Nat → List Nat
  | _, 0, v => v
  | s, n + 1, v => advV leaf chain (s + 1) n (stepV leaf chain s v)
theorem advV_add (leaf chain : Nat) : ∀ (n s m : Nat) (v : List Nat), advV leaf chain (s + n) m (advV leaf chain s n v) = advV leaf chain s (n + m) v
  | 0, s, m, v => by simp [advV]
  | n + 1, s, m, v => by
    rw [advV, show s + (n + 1) = s + 1 + n by omega, advV_add leaf chain n (s + 1) m, show n + 1 + m = n + m + 1 by omega, advV]
theorem advV_succ (leaf chain s n : Nat) (v : List Nat) : advV leaf chain s (n + 1) v = stepV leaf chain (s + n) (advV leaf chain s n v) := by
  rw [← advV_add leaf chain n s 1 v]
  rfl
theorem stepV_length (leaf chain s : Nat) (v : List Nat) : (stepV leaf chain s v).length = 16 := half_length _
theorem firstV_length (seed : List Nat) (leaf chain : Nat) : (firstV seed leaf chain).length = 16 := half_length _
theorem advV_length {leaf chain : Nat} : ∀ (n s : Nat) {v : List Nat}, v.length = 16 → (advV leaf chain s n v).length = 16
  | 0, _, _, h => h
  | n + 1, s, _, _ => advV_length n (s + 1) (stepV_length leaf chain s _)
theorem bytes_headb {t leaf : Nat} (h : t < 256) : Bytes (headb t leaf) := by
  intro x hx
  simp only [headb, List.mem_cons, List.not_mem_nil, or_false] at hx
  omega
theorem bytes_stepV (leaf chain s : Nat) (v : List Nat) : Bytes (stepV leaf chain s v) := bytes_half _
theorem bytes_firstV (seed : List Nat) (leaf chain : Nat) : Bytes (firstV seed leaf chain) := bytes_half _
theorem bytes_advV {leaf chain : Nat} : ∀ (n s : Nat) {v : List Nat}, Bytes v → Bytes (advV leaf chain s n v)
  | 0, _, _, h => h
  | n + 1, s, _, _ => bytes_advV n (s + 1) (bytes_stepV leaf chain s _)
/-- The public value of ends, laid one after the other. -/
def comp (leaf : Nat) (ends : List Nat) : List Nat := half (headb 4 leaf ++ ends)
/-- The piece of 16 bytes with an index. -/
def piece (E : List Nat) (i : Nat) : List Nat := (E.drop (16 * i)).take 16
/-- n pieces. -/
def pieces (f : Nat → List Nat) (n : Nat) : List Nat := (List.range n).flatMap f
theorem pieces_succ (f : Nat → List Nat) (n : Nat) : pieces f (n + 1) = pieces f n ++ f n := by simp [pieces, List.range_succ]
theorem pieces_length {f : Nat → List Nat} (hf : ∀ i, (f i).length = 16) : ∀ n, (pieces f n).length = 16 * n
  | 0 => rfl
  | n + 1 => by rw [pieces_succ, List.length_append, pieces_length hf n, hf]; omega
theorem piece_length {E : List Nat} {n i : Nat} (h : E.length = 16 * n) (hi : i < n) : (piece E i).length = 16 := by
  rw [piece, List.length_take, List.length_drop, h]; omega
theorem bytes_piece {E : List Nat} (h : Bytes E) (i : Nat) : Bytes (piece E i) := (h.drop _).take _
theorem bytes_pieces {f : Nat → List Nat} (hf : ∀ i, Bytes (f i)) : ∀ n, Bytes (pieces f n)
  | 0 => Bytes.nil
  | n + 1 => by rw [pieces_succ]; exact (bytes_pieces hf n).append (hf n)
theorem piece_pieces {f : Nat → List Nat} (hf : ∀ i, (f i).length = 16) (i : Nat) : ∀ n, i < n → piece (pieces f n) i = f i
  | 0, h => absurd h (by omega)
  | n + 1, h => by
    have hl := pieces_length hf n
    rw [pieces_succ]
    rcases (show i < n ∨ i = n by omega) with h1 | rfl
    · have := piece_pieces hf i n h1
      rw [piece, List.drop_append_of_le_length (by omega), List.take_append_of_le_length (by rw [List.length_drop]; omega)]
      exact this
    · rw [piece, List.drop_append_of_le_length (by omega), List.drop_of_length_le (by omega), List.nil_append, List.take_of_length_le (by rw [hf]; omega)]
theorem pieces_piece {E : List Nat} : ∀ n, E.length = 16 * n → pieces (piece E) n = E := by
  have key : ∀ n, 16 * n ≤ E.length → pieces (piece E) n = E.take (16 * n) := by
    intro n
    induction n with
    | zero => intro _; simp [pieces]
    | succ n ih =>
      intro h
      rw [pieces_succ, ih (by omega), piece, show 16 * (n + 1) = 16 * n + 16 by omega, List.take_add]
  intro n h
  rw [key n (by omega), List.take_of_length_le (by omega)]
theorem pieces_congr {f g : Nat → List Nat} : ∀ n, (∀ i, i < n → f i = g i) → pieces f n = pieces g n
  | 0, _ => rfl
  | n + 1, h => by rw [pieces_succ, pieces_succ, pieces_congr n (fun i hi => h i (by omega)), h n (by omega)]
/-- The values of a signature, of a public key's ends; where a signature leads. -/
def valuesV (seed : List Nat) (leaf : Nat) (steps : Nat → Nat) : List Nat := pieces (fun i => advV leaf i 0 (steps i) (firstV seed leaf i)) 35
def lastV (leaf : Nat) (d E : List Nat) : List Nat := pieces (fun i => advV leaf i ((split d).getD i 0) (15 - (split d).getD i 0) (piece E i)) 35
theorem values_f_length (seed : List Nat) (leaf : Nat) (steps : Nat → Nat) (i : Nat) : (advV leaf i 0 (steps i) (firstV seed leaf i)).length = 16 := advV_length _ _ (firstV_length _ _ _)
theorem valuesV_length (seed : List Nat) (leaf : Nat) (steps : Nat → Nat) : (valuesV seed leaf steps).length = 560 := pieces_length (values_f_length seed leaf steps) 35
/-- A signature leads to the ends of its seed. -/
theorem last_of_values {d : List Nat} (hd : Bytes d) (seed : List Nat) (leaf : Nat) : lastV leaf d (valuesV seed leaf fun i => (split d).getD i 0) = valuesV seed leaf fun _ => 15 := by
  refine pieces_congr 35 fun i hi => ?_
  rw [valuesV, piece_pieces (values_f_length seed leaf _) i 35 hi]
  have h1 := split_le hd i
  have := advV_add leaf i ((split d).getD i 0) 0 (15 - (split d).getD i 0) (firstV seed leaf i)
  rw [Nat.zero_add, show (split d).getD i 0 + (15 - (split d).getD i 0) = 15 by omega] at this
  exact this
end Go.Bul
namespace Go.Proofs.YtdnnjgjaffkdfaaDoor.Once
open Go Go.RowKit Go.Bul Go.Bul.Hp
def leafB (z : Int) : Bool := decide (0 ≤ z ∧ z ≤ 65535)
def chainB (z : Int) : Bool := decide (0 ≤ z ∧ z < 35)
theorem isLeaf_any (z : Int) (w : World) : Calls Tryd.prog 98 #[.int .i64 z] w fun e w' => e = .returned (.bool (leafB z)) ∧ w = w' := by
  go_enter Tryd.func98, Tryd.ntmps98
  rcases (show z < 0 ∨ (0 ≤ z ∧ z ≤ 65535) ∨ 65535 < z by omega) with h | h | h
  · have e1 : leafB z = false := by simp [leafB]; omega
    rw [e1]
    have h2 : decide (0 ≤ z) = false := by simp; omega
    go_wp2_with fail
    go_ret
    exact ⟨rfl, rfl⟩
  · have e1 : leafB z = true := by simp [leafB]; omega
    rw [e1]
    obtain ⟨h2, h3⟩ := h
    go_wp2_with fail
    go_ret
    exact ⟨rfl, rfl⟩
  · have e1 : leafB z = false := by simp [leafB]; omega
    rw [e1]
    have h2 : 0 ≤ z := by omega
    have h3 : decide (z ≤ 65535) = false := by simp; omega
    go_wp2_with fail
    go_ret
    exact ⟨rfl, rfl⟩
theorem hash_any (bs : List Nat) (A : Option Addr) (n c : Nat) (ok : Nat → Prop) (w : World) (hr : Rd w ok A n bs) (hn : n ≤ c) (hl : n ≤ 1099511627776) (hT : Tab w) :
    Calls Tryd.prog 127 #[.slice A n c] w fun e w' => e = .returned (.agg (cellsOf .u8 (half bs))) ∧ Below w.heap.size w w' := by
  have hM := Mem.start [] w
  have HR := Lib.hid hr
  have HT := Lib.hid hT
  have hb0 := Below.refl w.heap.size w
  clear hr hT
  go_enter Tryd.func127, Tryd.ntmps127
  go_wp2_with (first | ((with_reducible refine at_load_g ?_ ?_); (· rfl); first | (refine wpList_mem_load hM rfl _ _ (by rfl) _ (by rfl) _ _ _ (by repeat (first | exact List.Mem.head _ | apply List.Mem.tail)) (by first | exact row_a16 | exact row_i35 | exact row_val | exact row_a32 | exact row_e35 | exact row_v35 | exact row_sig | exact row_evi | exact row_half | exact row_dig | exact row_i2 | exact row_i3 | exact row_b3 | exact row_h2 | exact row_pair) ?_) | (refine wpList_mem_num hM rfl _ _ (by rfl) _ _ (by rfl) _ _ _ _ (by repeat (first | exact List.Mem.head _ | apply List.Mem.tail)) (by first | exact one_u8 | exact one_int | exact one_u32 | exact one_bool | exact one_errno | exact one_u16 | exact one_sl) (by omega) ?_)) | ((with_reducible refine at_load ?_); first | (refine wpList_mem_load hM rfl _ _ (by rfl) _ (by rfl) _ _ _ (by repeat (first | exact List.Mem.head _ | apply List.Mem.tail)) (by first | exact row_a16 | exact row_i35 | exact row_val | exact row_a32 | exact row_e35 | exact row_v35 | exact row_sig | exact row_evi | exact row_half | exact row_dig | exact row_i2 | exact row_i3 | exact row_b3 | exact row_h2 | exact row_pair) ?_) | (refine wpList_mem_num hM rfl _ _ (by rfl) _ _ (by rfl) _ _ _ _ (by repeat (first | exact List.Mem.head _ | apply List.Mem.tail)) (by first | exact one_u8 | exact one_int | exact one_u32 | exact one_bool | exact one_errno | exact one_u16 | exact one_sl) (by omega) ?_)) | ((with_reducible refine at_store ?_); first | (refine wpList_mem_store hM rfl _ _ _ (by rfl) _ (by rfl) _ (by rfl) _ _ _ _ (by repeat (first | exact UpdL.head _ _ _ _ _ | apply UpdL.tail)) (by first | exact row_a16 | exact row_i35 | exact row_val | exact row_a32 | exact row_e35 | exact row_v35 | exact row_sig | exact row_evi | exact row_half | exact row_dig | exact row_i2 | exact row_i3 | exact row_b3 | exact row_h2 | exact row_pair) (by first | assumption | (simp; done) | (simp only [cellsOf_size]; first | assumption | exact half_length _ | exact split_length _ | exact firstV_length _ _ _ | exact stepV_length _ _ _ _ | exact valuesV_length _ _ _) | (simp [*]; done)) (by first | exact vals_one _ _ | exact evc_one | (simp [Value.oneCell']; done)) rfl ?_; clear hM; intro wx hM) | (refine wpList_mem_setnum hM rfl _ _ _ (by rfl) _ _ (by rfl) _ _ (by rfl) _ _ _ _ (by repeat (first | exact UpdL.head _ _ _ _ _ | apply UpdL.tail)) (by first | exact one_u8 | exact one_int | exact one_u32 | exact one_bool | exact one_errno | exact one_u16 | exact one_sl) (by omega) _ (by first | rfl | exact (Int.toNat_of_nonneg (by omega)).symm) rfl ?_; clear hM; intro wx hM)) | ((with_reducible refine at_alloc ?_); refine wpList_mem_zero hM rfl _ (by rfl) _ _ (by first | exact zero_a16 | exact zero_i35 | exact zero_i35' | exact zero_val | exact zero_a32 | exact zero_a32' | exact zero_e35 | exact zero_v35 | exact zero_sig | exact zero_evi | exact zero_half | exact zero_dig | exact zero_int | exact zero_u8 | exact zero_i2 | exact zero_i3 | exact zero_b3 | exact zero_h2 | exact zero_pair) ?_; clear hM; intro gx wx hM) | ((with_reducible refine at_box ?_); refine wpList_mem_box hM rfl _ _ (by rfl) _ (by rfl) _ (by first | exact row_a16 | exact row_i35 | exact row_val | exact row_a32 | exact row_e35 | exact row_v35 | exact row_sig | exact row_evi | exact row_half | exact row_dig | exact row_i2 | exact row_i3 | exact row_b3 | exact row_h2 | exact row_pair) (by first | assumption | (simp; done) | (simp only [cellsOf_size]; first | assumption | exact half_length _ | exact split_length _ | exact firstV_length _ _ _ | exact stepV_length _ _ _ _ | exact valuesV_length _ _ _) | (simp [*]; done)) ?_; clear hM; intro gx wx hM))
  (with_reducible refine (half_any bs A n c ok _ (HR.out.kept hM.below) hn hl (HT.out.keep hM.below)).mono ?_)
  rintro e w1 ⟨rfl, hb1⟩
  replace hM := hM.step hb1
  go_wp2_with (first | ((with_reducible refine at_load_g ?_ ?_); (· rfl); first | (refine wpList_mem_load hM rfl _ _ (by rfl) _ (by rfl) _ _ _ (by repeat (first | exact List.Mem.head _ | apply List.Mem.tail)) (by first | exact row_a16 | exact row_i35 | exact row_val | exact row_a32 | exact row_e35 | exact row_v35 | exact row_sig | exact row_evi | exact row_half | exact row_dig | exact row_i2 | exact row_i3 | exact row_b3 | exact row_h2 | exact row_pair) ?_) | (refine wpList_mem_num hM rfl _ _ (by rfl) _ _ (by rfl) _ _ _ _ (by repeat (first | exact List.Mem.head _ | apply List.Mem.tail)) (by first | exact one_u8 | exact one_int | exact one_u32 | exact one_bool | exact one_errno | exact one_u16 | exact one_sl) (by omega) ?_)) | ((with_reducible refine at_load ?_); first | (refine wpList_mem_load hM rfl _ _ (by rfl) _ (by rfl) _ _ _ (by repeat (first | exact List.Mem.head _ | apply List.Mem.tail)) (by first | exact row_a16 | exact row_i35 | exact row_val | exact row_a32 | exact row_e35 | exact row_v35 | exact row_sig | exact row_evi | exact row_half | exact row_dig | exact row_i2 | exact row_i3 | exact row_b3 | exact row_h2 | exact row_pair) ?_) | (refine wpList_mem_num hM rfl _ _ (by rfl) _ _ (by rfl) _ _ _ _ (by repeat (first | exact List.Mem.head _ | apply List.Mem.tail)) (by first | exact one_u8 | exact one_int | exact one_u32 | exact one_bool | exact one_errno | exact one_u16 | exact one_sl) (by omega) ?_)) | ((with_reducible refine at_store ?_); first | (refine wpList_mem_store hM rfl _ _ _ (by rfl) _ (by rfl) _ (by rfl) _ _ _ _ (by repeat (first | exact UpdL.head _ _ _ _ _ | apply UpdL.tail)) (by first | exact row_a16 | exact row_i35 | exact row_val | exact row_a32 | exact row_e35 | exact row_v35 | exact row_sig | exact row_evi | exact row_half | exact row_dig | exact row_i2 | exact row_i3 | exact row_b3 | exact row_h2 | exact row_pair) (by first | assumption | (simp; done) | (simp only [cellsOf_size]; first | assumption | exact half_length _ | exact split_length _ | exact firstV_length _ _ _ | exact stepV_length _ _ _ _ | exact valuesV_length _ _ _) | (simp [*]; done)) (by first | exact vals_one _ _ | exact evc_one | (simp [Value.oneCell']; done)) rfl ?_; clear hM; intro wx hM) | (refine wpList_mem_setnum hM rfl _ _ _ (by rfl) _ _ (by rfl) _ _ (by rfl) _ _ _ _ (by repeat (first | exact UpdL.head _ _ _ _ _ | apply UpdL.tail)) (by first | exact one_u8 | exact one_int | exact one_u32 | exact one_bool | exact one_errno | exact one_u16 | exact one_sl) (by omega) _ (by first | rfl | exact (Int.toNat_of_nonneg (by omega)).symm) rfl ?_; clear hM; intro wx hM)) | ((with_reducible refine at_alloc ?_); refine wpList_mem_zero hM rfl _ (by rfl) _ _ (by first | exact zero_a16 | exact zero_i35 | exact zero_i35' | exact zero_val | exact zero_a32 | exact zero_a32' | exact zero_e35 | exact zero_v35 | exact zero_sig | exact zero_evi | exact zero_half | exact zero_dig | exact zero_int | exact zero_u8 | exact zero_i2 | exact zero_i3 | exact zero_b3 | exact zero_h2 | exact zero_pair) ?_; clear hM; intro gx wx hM) | ((with_reducible refine at_box ?_); refine wpList_mem_box hM rfl _ _ (by rfl) _ (by rfl) _ (by first | exact row_a16 | exact row_i35 | exact row_val | exact row_a32 | exact row_e35 | exact row_v35 | exact row_sig | exact row_evi | exact row_half | exact row_dig | exact row_i2 | exact row_i3 | exact row_b3 | exact row_h2 | exact row_pair) (by first | assumption | (simp; done) | (simp only [cellsOf_size]; first | assumption | exact half_length _ | exact split_length _ | exact firstV_length _ _ _ | exact stepV_length _ _ _ _ | exact valuesV_length _ _ _) | (simp [*]; done)) ?_; clear hM; intro gx wx hM))
  exact bodyPost_ret (results_mem_cell hM rfl (by rfl) (by repeat (first | exact List.Mem.head _ | apply List.Mem.tail)) (by first | exact row_a16 | exact row_i35 | exact row_val | exact row_a32 | exact row_e35 | exact row_v35 | exact row_sig | exact row_evi | exact row_half | exact row_dig | exact row_i2 | exact row_i3 | exact row_b3 | exact row_h2 | exact row_pair)) rfl ⟨rfl, hM.below⟩

/-- What input returns: a row of the call's own. -/
theorem input_any (f : Nat) (leaf : Nat) (x y : Int) (w : World) (hf : f < 256) (hl : leaf ≤ 65535) (hx : x = (f : Int)) (hy : y = (leaf : Int)) :
    Calls Tryd.prog 126 #[.int .u8 x, .int .i64 y] w fun e w' => ∃ v, e = .returned v ∧ Below w.heap.size w w' ∧ OwnB w' w.heap.size v (headb f leaf) := by
  subst hy hx
  have hf' : (f : Int) < 256 := by omega
  go_enter Tryd.func126, Tryd.ntmps126
  go_wp2_with fail
  go_ret
  refine ⟨_, rfl, (Below.refl _ _).alloc (Nat.le_refl _) _, ?_⟩
  have hx : (#[Value.int IntKind.u8 (f : Nat), Value.int IntKind.u8 ((leaf : Int) / 16777216), Value.int IntKind.u8 ((leaf : Int) / 65536), Value.int IntKind.u8 ((leaf : Int) / 256), Value.int IntKind.u8 ((leaf : Int) % 256)] : Array Value) = cellsOf .u8 (headb f leaf) := by
    have e1 : (leaf : Int) / 16777216 = ((leaf / 16777216 % 256 : Nat) : Int) := by omega
    have e2 : (leaf : Int) / 65536 = ((leaf / 65536 % 256 : Nat) : Int) := by omega
    have e3 : (leaf : Int) / 256 = ((leaf / 256 % 256 : Nat) : Int) := by omega
    have e4 : (leaf : Int) % 256 = ((leaf % 256 : Nat) : Int) := by omega
    rw [e1, e2, e3, e4]
    rfl
  rw [hx]
  exact OwnB.of_block (g := w.heap.size) (Blk.new w _ _) (Nat.le_refl _) (by unfold maxLen; simp [headb])
theorem headb_length (f leaf : Nat) : (headb f leaf).length = 5 := rfl
theorem Mem.row_new {G : List Nat} {w0 w w' : World} {L : List Ent} {R : List OwnR} {v : Value} {xs : List Nat} (h : Mem G w0 L R w) (hb : Below w.heap.size w w') (ho : OwnB w' w.heap.size v xs) : Mem G w0 L (brow v xs :: R) w' := h.newRow hb ho
end Go.Proofs.YtdnnjgjaffkdfaaDoor.Once
namespace Go.Proofs.YtdnnjgjaffkdfaaDoor.Once
open Go Go.RowKit Go.Bul Go.Bul.Hp
theorem hash_row {G : List Nat} {w0 w : World} {L : List Ent} {R : List OwnR} {v : Value} {xs : List Nat} (hM : Mem G w0 L R w) (h : brow v xs ∈ R) (hb : Bytes xs) (hl : xs.length ≤ 1099511627776) (hT : Tab w) :
    Calls Tryd.prog 127 #[v] w fun e w' => e = .returned (.agg (cellsOf .u8 (half xs))) ∧ Below w.heap.size w w' := by
  obtain ⟨A, c, rfl, _⟩ := own_form (brow_own hM h)
  obtain ⟨h1, h2, h3⟩ := brow_rd hM h hb
  exact hash_any xs A _ c _ w h1 h2 (by omega) hT
theorem bytes_first {seed : List Nat} (hb : Bytes seed) (leaf chain : Nat) (hc : chain < 256) : Bytes (headb 2 leaf ++ [chain] ++ seed) := ((@bytes_headb 2 leaf (by omega)).append (Bytes.cons hc Bytes.nil)).append hb
theorem bytes_step {v : List Nat} (hb : Bytes v) (leaf chain s : Nat) (hc : chain < 256) (hs : s < 256) : Bytes (headb 3 leaf ++ [chain, s] ++ v) := ((@bytes_headb 3 leaf (by omega)).append (Bytes.cons hc (Bytes.cons hs Bytes.nil))).append hb
theorem first_any (seed : List Nat) (leaf chain : Nat) (y z : Int) (w : World) (hs : seed.length = 32) (hb : Bytes seed) (hl : leaf ≤ 65535) (hc : chain < 35) (hy : y = (leaf : Int)) (hz : z = (chain : Int)) (hT : Tab w) :
    Calls Tryd.prog 109 #[.agg (cellsOf .u8 seed), .int .i64 y, .int .i64 z] w fun e w' => e = .returned (.agg (cellsOf .u8 (firstV seed leaf chain))) ∧ Below w.heap.size w w' := by
  subst hy hz
  have hM := Mem.start [] w
  have HT := Lib.hid hT
  have HB := Lib.hid hb
  clear hT
  have i2 := fun w => input_any 2 leaf 2 leaf w (by omega) hl rfl rfl
  have hc' : (chain : Int) < 35 := by omega
  go_enter Tryd.func109, Tryd.ntmps109
  go_wp2_with (first | ((with_reducible refine at_load_g ?_ ?_); (· rfl); first | (refine wpList_mem_load hM rfl _ _ (by rfl) _ (by rfl) _ _ _ (by repeat (first | exact List.Mem.head _ | apply List.Mem.tail)) (by first | exact row_a16 | exact row_i35 | exact row_val | exact row_a32 | exact row_e35 | exact row_v35 | exact row_sig | exact row_evi | exact row_half | exact row_dig | exact row_i2 | exact row_i3 | exact row_b3 | exact row_h2 | exact row_pair) ?_) | (refine wpList_mem_num hM rfl _ _ (by rfl) _ _ (by rfl) _ _ _ _ (by repeat (first | exact List.Mem.head _ | apply List.Mem.tail)) (by first | exact one_u8 | exact one_int | exact one_u32 | exact one_bool | exact one_errno | exact one_u16 | exact one_sl) (by omega) ?_)) | ((with_reducible refine at_load ?_); first | (refine wpList_mem_load hM rfl _ _ (by rfl) _ (by rfl) _ _ _ (by repeat (first | exact List.Mem.head _ | apply List.Mem.tail)) (by first | exact row_a16 | exact row_i35 | exact row_val | exact row_a32 | exact row_e35 | exact row_v35 | exact row_sig | exact row_evi | exact row_half | exact row_dig | exact row_i2 | exact row_i3 | exact row_b3 | exact row_h2 | exact row_pair) ?_) | (refine wpList_mem_num hM rfl _ _ (by rfl) _ _ (by rfl) _ _ _ _ (by repeat (first | exact List.Mem.head _ | apply List.Mem.tail)) (by first | exact one_u8 | exact one_int | exact one_u32 | exact one_bool | exact one_errno | exact one_u16 | exact one_sl) (by omega) ?_)) | ((with_reducible refine at_store ?_); first | (refine wpList_mem_store hM rfl _ _ _ (by rfl) _ (by rfl) _ (by rfl) _ _ _ _ (by repeat (first | exact UpdL.head _ _ _ _ _ | apply UpdL.tail)) (by first | exact row_a16 | exact row_i35 | exact row_val | exact row_a32 | exact row_e35 | exact row_v35 | exact row_sig | exact row_evi | exact row_half | exact row_dig | exact row_i2 | exact row_i3 | exact row_b3 | exact row_h2 | exact row_pair) (by first | assumption | (simp; done) | (simp only [cellsOf_size]; first | assumption | exact half_length _ | exact split_length _ | exact firstV_length _ _ _ | exact stepV_length _ _ _ _ | exact valuesV_length _ _ _) | (simp [*]; done)) (by first | exact vals_one _ _ | exact evc_one | (simp [Value.oneCell']; done)) rfl ?_; clear hM; intro wx hM) | (refine wpList_mem_setnum hM rfl _ _ _ (by rfl) _ _ (by rfl) _ _ (by rfl) _ _ _ _ (by repeat (first | exact UpdL.head _ _ _ _ _ | apply UpdL.tail)) (by first | exact one_u8 | exact one_int | exact one_u32 | exact one_bool | exact one_errno | exact one_u16 | exact one_sl) (by omega) _ (by first | rfl | exact (Int.toNat_of_nonneg (by omega)).symm) rfl ?_; clear hM; intro wx hM)) | ((with_reducible refine at_alloc ?_); refine wpList_mem_zero hM rfl _ (by rfl) _ _ (by first | exact zero_a16 | exact zero_i35 | exact zero_i35' | exact zero_val | exact zero_a32 | exact zero_a32' | exact zero_e35 | exact zero_v35 | exact zero_sig | exact zero_evi | exact zero_half | exact zero_dig | exact zero_int | exact zero_u8 | exact zero_i2 | exact zero_i3 | exact zero_b3 | exact zero_h2 | exact zero_pair) ?_; clear hM; intro gx wx hM) | ((with_reducible refine at_box ?_); refine wpList_mem_box hM rfl _ _ (by rfl) _ (by rfl) _ (by first | exact row_a16 | exact row_i35 | exact row_val | exact row_a32 | exact row_e35 | exact row_v35 | exact row_sig | exact row_evi | exact row_half | exact row_dig | exact row_i2 | exact row_i3 | exact row_b3 | exact row_h2 | exact row_pair) (by first | assumption | (simp; done) | (simp only [cellsOf_size]; first | assumption | exact half_length _ | exact split_length _ | exact firstV_length _ _ _ | exact stepV_length _ _ _ _ | exact valuesV_length _ _ _) | (simp [*]; done)) ?_; clear hM; intro gx wx hM))
  (with_reducible refine (i2 _).mono ?_)
  rintro e w1 ⟨v, rfl, hb1, ho⟩
  replace hM := Mem.row_new hM hb1 ho
  clear hb1 ho i2
  go_wp2_with (first
    | ((with_reducible refine wpList_mem_new .u8 [chain] hM ?_ ?_); (· rfl); clear hM; intro wx hM)
    | ((with_reducible refine at_append ?_); refine wpList_mem_bytes hM rfl _ _ _ (by rfl) Tryd.underlying78 _ (by rfl) _ _ (by repeat (first | exact UpdR.head _ _ | apply UpdR.tail)) _ _ _ (by rfl) _ _ (ent_rd_whole hM (by repeat (first | exact List.Mem.head _ | apply List.Mem.tail)) (by first | assumption | exact HB.out | exact bytes_half _ | exact Bytes.cons (by omega) Bytes.nil | exact Bytes.cons (by omega) (Bytes.cons (by omega) Bytes.nil))) (by first | (simp [headb_length]; done) | (simp [headb_length, *]; done) | (simp [headb_length]; omega)) ?_; clear hM; intro Ax Nx cx wx HN hM) | ((with_reducible refine at_load_g ?_ ?_); (· rfl); first | (refine wpList_mem_load hM rfl _ _ (by rfl) _ (by rfl) _ _ _ (by repeat (first | exact List.Mem.head _ | apply List.Mem.tail)) (by first | exact row_a16 | exact row_i35 | exact row_val | exact row_a32 | exact row_e35 | exact row_v35 | exact row_sig | exact row_evi | exact row_half | exact row_dig | exact row_i2 | exact row_i3 | exact row_b3 | exact row_h2 | exact row_pair) ?_) | (refine wpList_mem_num hM rfl _ _ (by rfl) _ _ (by rfl) _ _ _ _ (by repeat (first | exact List.Mem.head _ | apply List.Mem.tail)) (by first | exact one_u8 | exact one_int | exact one_u32 | exact one_bool | exact one_errno | exact one_u16 | exact one_sl) (by omega) ?_)) | ((with_reducible refine at_load ?_); first | (refine wpList_mem_load hM rfl _ _ (by rfl) _ (by rfl) _ _ _ (by repeat (first | exact List.Mem.head _ | apply List.Mem.tail)) (by first | exact row_a16 | exact row_i35 | exact row_val | exact row_a32 | exact row_e35 | exact row_v35 | exact row_sig | exact row_evi | exact row_half | exact row_dig | exact row_i2 | exact row_i3 | exact row_b3 | exact row_h2 | exact row_pair) ?_) | (refine wpList_mem_num hM rfl _ _ (by rfl) _ _ (by rfl) _ _ _ _ (by repeat (first | exact List.Mem.head _ | apply List.Mem.tail)) (by first | exact one_u8 | exact one_int | exact one_u32 | exact one_bool | exact one_errno | exact one_u16 | exact one_sl) (by omega) ?_)) | ((with_reducible refine at_store ?_); first | (refine wpList_mem_store hM rfl _ _ _ (by rfl) _ (by rfl) _ (by rfl) _ _ _ _ (by repeat (first | exact UpdL.head _ _ _ _ _ | apply UpdL.tail)) (by first | exact row_a16 | exact row_i35 | exact row_val | exact row_a32 | exact row_e35 | exact row_v35 | exact row_sig | exact row_evi | exact row_half | exact row_dig | exact row_i2 | exact row_i3 | exact row_b3 | exact row_h2 | exact row_pair) (by first | assumption | (simp; done) | (simp only [cellsOf_size]; first | assumption | exact half_length _ | exact split_length _ | exact firstV_length _ _ _ | exact stepV_length _ _ _ _ | exact valuesV_length _ _ _) | (simp [*]; done)) (by first | exact vals_one _ _ | exact evc_one | (simp [Value.oneCell']; done)) rfl ?_; clear hM; intro wx hM) | (refine wpList_mem_setnum hM rfl _ _ _ (by rfl) _ _ (by rfl) _ _ (by rfl) _ _ _ _ (by repeat (first | exact UpdL.head _ _ _ _ _ | apply UpdL.tail)) (by first | exact one_u8 | exact one_int | exact one_u32 | exact one_bool | exact one_errno | exact one_u16 | exact one_sl) (by omega) _ (by first | rfl | exact (Int.toNat_of_nonneg (by omega)).symm) rfl ?_; clear hM; intro wx hM)) | ((with_reducible refine at_alloc ?_); refine wpList_mem_zero hM rfl _ (by rfl) _ _ (by first | exact zero_a16 | exact zero_i35 | exact zero_i35' | exact zero_val | exact zero_a32 | exact zero_a32' | exact zero_e35 | exact zero_v35 | exact zero_sig | exact zero_evi | exact zero_half | exact zero_dig | exact zero_int | exact zero_u8 | exact zero_i2 | exact zero_i3 | exact zero_b3 | exact zero_h2 | exact zero_pair) ?_; clear hM; intro gx wx hM) | ((with_reducible refine at_box ?_); refine wpList_mem_box hM rfl _ _ (by rfl) _ (by rfl) _ (by first | exact row_a16 | exact row_i35 | exact row_val | exact row_a32 | exact row_e35 | exact row_v35 | exact row_sig | exact row_evi | exact row_half | exact row_dig | exact row_i2 | exact row_i3 | exact row_b3 | exact row_h2 | exact row_pair) (by first | assumption | (simp; done) | (simp only [cellsOf_size]; first | assumption | exact half_length _ | exact split_length _ | exact firstV_length _ _ _ | exact stepV_length _ _ _ _ | exact valuesV_length _ _ _) | (simp [*]; done)) ?_; clear hM; intro gx wx hM))
  (refine (hash_row hM (by repeat (first | exact List.Mem.head _ | apply List.Mem.tail)) (bytes_first hb leaf chain (by omega)) (by simp [headb_length, hs]) (HT.out.keep hM.below)).mono ?_)
  rintro e w2 ⟨rfl, hb2⟩
  replace hM := hM.step hb2
  have e1 : headb 2 leaf ++ [chain] ++ seed = headb 2 leaf ++ chain :: seed := by simp
  rw [e1]
  go_wp2_with (first | ((with_reducible refine at_load_g ?_ ?_); (· rfl); first | (refine wpList_mem_load hM rfl _ _ (by rfl) _ (by rfl) _ _ _ (by repeat (first | exact List.Mem.head _ | apply List.Mem.tail)) (by first | exact row_a16 | exact row_i35 | exact row_val | exact row_a32 | exact row_e35 | exact row_v35 | exact row_sig | exact row_evi | exact row_half | exact row_dig | exact row_i2 | exact row_i3 | exact row_b3 | exact row_h2 | exact row_pair) ?_) | (refine wpList_mem_num hM rfl _ _ (by rfl) _ _ (by rfl) _ _ _ _ (by repeat (first | exact List.Mem.head _ | apply List.Mem.tail)) (by first | exact one_u8 | exact one_int | exact one_u32 | exact one_bool | exact one_errno | exact one_u16 | exact one_sl) (by omega) ?_)) | ((with_reducible refine at_load ?_); first | (refine wpList_mem_load hM rfl _ _ (by rfl) _ (by rfl) _ _ _ (by repeat (first | exact List.Mem.head _ | apply List.Mem.tail)) (by first | exact row_a16 | exact row_i35 | exact row_val | exact row_a32 | exact row_e35 | exact row_v35 | exact row_sig | exact row_evi | exact row_half | exact row_dig | exact row_i2 | exact row_i3 | exact row_b3 | exact row_h2 | exact row_pair) ?_) | (refine wpList_mem_num hM rfl _ _ (by rfl) _ _ (by rfl) _ _ _ _ (by repeat (first | exact List.Mem.head _ | apply List.Mem.tail)) (by first | exact one_u8 | exact one_int | exact one_u32 | exact one_bool | exact one_errno | exact one_u16 | exact one_sl) (by omega) ?_)) | ((with_reducible refine at_store ?_); first | (refine wpList_mem_store hM rfl _ _ _ (by rfl) _ (by rfl) _ (by rfl) _ _ _ _ (by repeat (first | exact UpdL.head _ _ _ _ _ | apply UpdL.tail)) (by first | exact row_a16 | exact row_i35 | exact row_val | exact row_a32 | exact row_e35 | exact row_v35 | exact row_sig | exact row_evi | exact row_half | exact row_dig | exact row_i2 | exact row_i3 | exact row_b3 | exact row_h2 | exact row_pair) (by first | assumption | (simp; done) | (simp only [cellsOf_size]; first | assumption | exact half_length _ | exact split_length _ | exact firstV_length _ _ _ | exact stepV_length _ _ _ _ | exact valuesV_length _ _ _) | (simp [*]; done)) (by first | exact vals_one _ _ | exact evc_one | (simp [Value.oneCell']; done)) rfl ?_; clear hM; intro wx hM) | (refine wpList_mem_setnum hM rfl _ _ _ (by rfl) _ _ (by rfl) _ _ (by rfl) _ _ _ _ (by repeat (first | exact UpdL.head _ _ _ _ _ | apply UpdL.tail)) (by first | exact one_u8 | exact one_int | exact one_u32 | exact one_bool | exact one_errno | exact one_u16 | exact one_sl) (by omega) _ (by first | rfl | exact (Int.toNat_of_nonneg (by omega)).symm) rfl ?_; clear hM; intro wx hM)) | ((with_reducible refine at_alloc ?_); refine wpList_mem_zero hM rfl _ (by rfl) _ _ (by first | exact zero_a16 | exact zero_i35 | exact zero_i35' | exact zero_val | exact zero_a32 | exact zero_a32' | exact zero_e35 | exact zero_v35 | exact zero_sig | exact zero_evi | exact zero_half | exact zero_dig | exact zero_int | exact zero_u8 | exact zero_i2 | exact zero_i3 | exact zero_b3 | exact zero_h2 | exact zero_pair) ?_; clear hM; intro gx wx hM) | ((with_reducible refine at_box ?_); refine wpList_mem_box hM rfl _ _ (by rfl) _ (by rfl) _ (by first | exact row_a16 | exact row_i35 | exact row_val | exact row_a32 | exact row_e35 | exact row_v35 | exact row_sig | exact row_evi | exact row_half | exact row_dig | exact row_i2 | exact row_i3 | exact row_b3 | exact row_h2 | exact row_pair) (by first | assumption | (simp; done) | (simp only [cellsOf_size]; first | assumption | exact half_length _ | exact split_length _ | exact firstV_length _ _ _ | exact stepV_length _ _ _ _ | exact valuesV_length _ _ _) | (simp [*]; done)) ?_; clear hM; intro gx wx hM))
  exact bodyPost_ret (results_mem_cell hM rfl (by rfl) (by repeat (first | exact List.Mem.head _ | apply List.Mem.tail)) (by first | exact row_a16 | exact row_i35 | exact row_val | exact row_a32 | exact row_e35 | exact row_v35 | exact row_sig | exact row_evi | exact row_half | exact row_dig | exact row_i2 | exact row_i3 | exact row_b3 | exact row_h2 | exact row_pair)) rfl ⟨rfl, hM.below⟩
theorem advance_any (v : List Nat) (leaf chain m n : Nat) (y z p q : Int) (w : World) (hv : v.length = 16) (hb : Bytes v) (hl : leaf ≤ 65535) (hc : chain < 35) (hmn : m ≤ n) (hn : n ≤ 15) (hy : y = (leaf : Int)) (hz : z = (chain : Int)) (hp : p = (m : Int)) (hq : q = (n : Int)) (hT : Tab w) :
    Calls Tryd.prog 108 #[.int .i64 y, .int .i64 z, .int .i64 p, .int .i64 q, .agg (cellsOf .u8 v)] w fun e w' => e = .returned (.agg (cellsOf .u8 (advV leaf chain m (n - m) v))) ∧ Below w.heap.size w w' := by
  subst hy hz hp hq
  have hM := Mem.start [] w
  have HT := Lib.hid hT
  have HB := Lib.hid hb
  clear hT hb
  have i2 := fun w => input_any 3 leaf 3 leaf w (by omega) hl rfl rfl
  have hc' : (chain : Int) < 35 := by omega
  have hn' : (n : Int) ≤ 15 := by omega
  go_enter Tryd.func108, Tryd.ntmps108
  go_wp2_with (first | ((with_reducible refine at_load_g ?_ ?_); (· rfl); first | (refine wpList_mem_load hM rfl _ _ (by rfl) _ (by rfl) _ _ _ (by repeat (first | exact List.Mem.head _ | apply List.Mem.tail)) (by first | exact row_a16 | exact row_i35 | exact row_val | exact row_a32 | exact row_e35 | exact row_v35 | exact row_sig | exact row_evi | exact row_half | exact row_dig | exact row_i2 | exact row_i3 | exact row_b3 | exact row_h2 | exact row_pair) ?_) | (refine wpList_mem_num hM rfl _ _ (by rfl) _ _ (by rfl) _ _ _ _ (by repeat (first | exact List.Mem.head _ | apply List.Mem.tail)) (by first | exact one_u8 | exact one_int | exact one_u32 | exact one_bool | exact one_errno | exact one_u16 | exact one_sl) (by omega) ?_)) | ((with_reducible refine at_load ?_); first | (refine wpList_mem_load hM rfl _ _ (by rfl) _ (by rfl) _ _ _ (by repeat (first | exact List.Mem.head _ | apply List.Mem.tail)) (by first | exact row_a16 | exact row_i35 | exact row_val | exact row_a32 | exact row_e35 | exact row_v35 | exact row_sig | exact row_evi | exact row_half | exact row_dig | exact row_i2 | exact row_i3 | exact row_b3 | exact row_h2 | exact row_pair) ?_) | (refine wpList_mem_num hM rfl _ _ (by rfl) _ _ (by rfl) _ _ _ _ (by repeat (first | exact List.Mem.head _ | apply List.Mem.tail)) (by first | exact one_u8 | exact one_int | exact one_u32 | exact one_bool | exact one_errno | exact one_u16 | exact one_sl) (by omega) ?_)) | ((with_reducible refine at_store ?_); first | (refine wpList_mem_store hM rfl _ _ _ (by rfl) _ (by rfl) _ (by rfl) _ _ _ _ (by repeat (first | exact UpdL.head _ _ _ _ _ | apply UpdL.tail)) (by first | exact row_a16 | exact row_i35 | exact row_val | exact row_a32 | exact row_e35 | exact row_v35 | exact row_sig | exact row_evi | exact row_half | exact row_dig | exact row_i2 | exact row_i3 | exact row_b3 | exact row_h2 | exact row_pair) (by first | assumption | (simp; done) | (simp only [cellsOf_size]; first | assumption | exact half_length _ | exact split_length _ | exact firstV_length _ _ _ | exact stepV_length _ _ _ _ | exact valuesV_length _ _ _) | (simp [*]; done)) (by first | exact vals_one _ _ | exact evc_one | (simp [Value.oneCell']; done)) rfl ?_; clear hM; intro wx hM) | (refine wpList_mem_setnum hM rfl _ _ _ (by rfl) _ _ (by rfl) _ _ (by rfl) _ _ _ _ (by repeat (first | exact UpdL.head _ _ _ _ _ | apply UpdL.tail)) (by first | exact one_u8 | exact one_int | exact one_u32 | exact one_bool | exact one_errno | exact one_u16 | exact one_sl) (by omega) _ (by first | rfl | exact (Int.toNat_of_nonneg (by omega)).symm) rfl ?_; clear hM; intro wx hM)) | ((with_reducible refine at_alloc ?_); refine wpList_mem_zero hM rfl _ (by rfl) _ _ (by first | exact zero_a16 | exact zero_i35 | exact zero_i35' | exact zero_val | exact zero_a32 | exact zero_a32' | exact zero_e35 | exact zero_v35 | exact zero_sig | exact zero_evi | exact zero_half | exact zero_dig | exact zero_int | exact zero_u8 | exact zero_i2 | exact zero_i3 | exact zero_b3 | exact zero_h2 | exact zero_pair) ?_; clear hM; intro gx wx hM) | ((with_reducible refine at_box ?_); refine wpList_mem_box hM rfl _ _ (by rfl) _ (by rfl) _ (by first | exact row_a16 | exact row_i35 | exact row_val | exact row_a32 | exact row_e35 | exact row_v35 | exact row_sig | exact row_evi | exact row_half | exact row_dig | exact row_i2 | exact row_i3 | exact row_b3 | exact row_h2 | exact row_pair) (by first | assumption | (simp; done) | (simp only [cellsOf_size]; first | assumption | exact half_length _ | exact split_length _ | exact firstV_length _ _ _ | exact stepV_length _ _ _ _ | exact valuesV_length _ _ _) | (simp [*]; done)) ?_; clear hM; intro gx wx hM))
  obtain ⟨g1, rfl⟩ := hM.name1
  obtain ⟨g0, rfl⟩ := hM.name2
  go_loopw [11] (fun i wr => ∃ k : Nat, m ≤ k ∧ k ≤ n ∧ i = .int .i64 (k : Nat) ∧ Mem [] w [⟨g1, 22, 16, cellsOf .u8 (zeros 16)⟩, ⟨g0, 22, 16, cellsOf .u8 (advV leaf chain m (k - m) v)⟩] [] wr) (fun i _ => n - (intOf i).toNat)
  case atStart => exact ⟨m, Nat.le_refl _, hmn, rfl, by rw [Nat.sub_self]; exact hM⟩
  case round =>
    obtain ⟨k, hmk, hkn, rfl, hM⟩ := hrel
    obtain ⟨u, hu⟩ : ∃ u, u = advV leaf chain m (k - m) v := ⟨_, rfl⟩
    have hul : u.length = 16 := by rw [hu]; exact advV_length _ _ hv
    have hub : Bytes u := by rw [hu]; exact bytes_advV _ _ HB.out
    have hnx : k < n → advV leaf chain m (k + 1 - m) v = stepV leaf chain k u := fun _ => by rw [show k + 1 - m = (k - m) + 1 by omega, advV_succ, hu, show m + (k - m) = k by omega]
    rw [← hu] at hM
    have HU := Lib.hid (And.intro hu hnx)
    clear hu hnx
    by_cases hlt : k < n
    · have hk' : (k : Int) < 15 := by omega
      go_wp2_with fail
      (with_reducible refine (i2 _).mono ?_)
      rintro e w1 ⟨x, rfl, hb1, ho⟩
      replace hM := Mem.row_new hM hb1 ho
      clear hb1 ho
      go_wp2_with (first
        | ((with_reducible refine wpList_mem_new .u8 [chain, k] hM ?_ ?_); (· rfl); clear hM; intro wx hM)
        | ((with_reducible refine at_append ?_); refine wpList_mem_bytes hM rfl _ _ _ (by rfl) Tryd.underlying78 _ (by rfl) _ _ (by repeat (first | exact UpdR.head _ _ | apply UpdR.tail)) _ _ _ (by rfl) _ _ (ent_rd_whole hM (by repeat (first | exact List.Mem.head _ | apply List.Mem.tail)) (by first | assumption | exact HB.out | exact bytes_half _ | exact Bytes.cons (by omega) Bytes.nil | exact Bytes.cons (by omega) (Bytes.cons (by omega) Bytes.nil))) (by first | (simp [headb_length]; done) | (simp [headb_length, *]; done) | (simp [headb_length]; omega)) ?_; clear hM; intro Ax Nx cx wx HN hM) | ((with_reducible refine at_load_g ?_ ?_); (· rfl); first | (refine wpList_mem_load hM rfl _ _ (by rfl) _ (by rfl) _ _ _ (by repeat (first | exact List.Mem.head _ | apply List.Mem.tail)) (by first | exact row_a16 | exact row_i35 | exact row_val | exact row_a32 | exact row_e35 | exact row_v35 | exact row_sig | exact row_evi | exact row_half | exact row_dig | exact row_i2 | exact row_i3 | exact row_b3 | exact row_h2 | exact row_pair) ?_) | (refine wpList_mem_num hM rfl _ _ (by rfl) _ _ (by rfl) _ _ _ _ (by repeat (first | exact List.Mem.head _ | apply List.Mem.tail)) (by first | exact one_u8 | exact one_int | exact one_u32 | exact one_bool | exact one_errno | exact one_u16 | exact one_sl) (by omega) ?_)) | ((with_reducible refine at_load ?_); first | (refine wpList_mem_load hM rfl _ _ (by rfl) _ (by rfl) _ _ _ (by repeat (first | exact List.Mem.head _ | apply List.Mem.tail)) (by first | exact row_a16 | exact row_i35 | exact row_val | exact row_a32 | exact row_e35 | exact row_v35 | exact row_sig | exact row_evi | exact row_half | exact row_dig | exact row_i2 | exact row_i3 | exact row_b3 | exact row_h2 | exact row_pair) ?_) | (refine wpList_mem_num hM rfl _ _ (by rfl) _ _ (by rfl) _ _ _ _ (by repeat (first | exact List.Mem.head _ | apply List.Mem.tail)) (by first | exact one_u8 | exact one_int | exact one_u32 | exact one_bool | exact one_errno | exact one_u16 | exact one_sl) (by omega) ?_)) | ((with_reducible refine at_store ?_); first | (refine wpList_mem_store hM rfl _ _ _ (by rfl) _ (by rfl) _ (by rfl) _ _ _ _ (by repeat (first | exact UpdL.head _ _ _ _ _ | apply UpdL.tail)) (by first | exact row_a16 | exact row_i35 | exact row_val | exact row_a32 | exact row_e35 | exact row_v35 | exact row_sig | exact row_evi | exact row_half | exact row_dig | exact row_i2 | exact row_i3 | exact row_b3 | exact row_h2 | exact row_pair) (by first | assumption | (simp; done) | (simp only [cellsOf_size]; first | assumption | exact half_length _ | exact split_length _ | exact firstV_length _ _ _ | exact stepV_length _ _ _ _ | exact valuesV_length _ _ _) | (simp [*]; done)) (by first | exact vals_one _ _ | exact evc_one | (simp [Value.oneCell']; done)) rfl ?_; clear hM; intro wx hM) | (refine wpList_mem_setnum hM rfl _ _ _ (by rfl) _ _ (by rfl) _ _ (by rfl) _ _ _ _ (by repeat (first | exact UpdL.head _ _ _ _ _ | apply UpdL.tail)) (by first | exact one_u8 | exact one_int | exact one_u32 | exact one_bool | exact one_errno | exact one_u16 | exact one_sl) (by omega) _ (by first | rfl | exact (Int.toNat_of_nonneg (by omega)).symm) rfl ?_; clear hM; intro wx hM)) | ((with_reducible refine at_alloc ?_); refine wpList_mem_zero hM rfl _ (by rfl) _ _ (by first | exact zero_a16 | exact zero_i35 | exact zero_i35' | exact zero_val | exact zero_a32 | exact zero_a32' | exact zero_e35 | exact zero_v35 | exact zero_sig | exact zero_evi | exact zero_half | exact zero_dig | exact zero_int | exact zero_u8 | exact zero_i2 | exact zero_i3 | exact zero_b3 | exact zero_h2 | exact zero_pair) ?_; clear hM; intro gx wx hM) | ((with_reducible refine at_box ?_); refine wpList_mem_box hM rfl _ _ (by rfl) _ (by rfl) _ (by first | exact row_a16 | exact row_i35 | exact row_val | exact row_a32 | exact row_e35 | exact row_v35 | exact row_sig | exact row_evi | exact row_half | exact row_dig | exact row_i2 | exact row_i3 | exact row_b3 | exact row_h2 | exact row_pair) (by first | assumption | (simp; done) | (simp only [cellsOf_size]; first | assumption | exact half_length _ | exact split_length _ | exact firstV_length _ _ _ | exact stepV_length _ _ _ _ | exact valuesV_length _ _ _) | (simp [*]; done)) ?_; clear hM; intro gx wx hM))
      (refine (hash_row hM (by repeat (first | exact List.Mem.head _ | apply List.Mem.tail)) (bytes_step hub leaf chain k (by omega) (by omega)) (by simp [headb_length, hul]) (HT.out.keep hM.below)).mono ?_)
      rintro e w2 ⟨rfl, hb2⟩
      replace hM := hM.step hb2
      have e1 : half (headb 3 leaf ++ [chain, k] ++ u) = stepV leaf chain k u := by unfold stepV; simp
      rw [e1]
      have hsl := stepV_length leaf chain k u
      clear e1
      go_wp2_with (first | ((with_reducible refine at_load_g ?_ ?_); (· rfl); first | (refine wpList_mem_load hM rfl _ _ (by rfl) _ (by rfl) _ _ _ (by repeat (first | exact List.Mem.head _ | apply List.Mem.tail)) (by first | exact row_a16 | exact row_i35 | exact row_val | exact row_a32 | exact row_e35 | exact row_v35 | exact row_sig | exact row_evi | exact row_half | exact row_dig | exact row_i2 | exact row_i3 | exact row_b3 | exact row_h2 | exact row_pair) ?_) | (refine wpList_mem_num hM rfl _ _ (by rfl) _ _ (by rfl) _ _ _ _ (by repeat (first | exact List.Mem.head _ | apply List.Mem.tail)) (by first | exact one_u8 | exact one_int | exact one_u32 | exact one_bool | exact one_errno | exact one_u16 | exact one_sl) (by omega) ?_)) | ((with_reducible refine at_load ?_); first | (refine wpList_mem_load hM rfl _ _ (by rfl) _ (by rfl) _ _ _ (by repeat (first | exact List.Mem.head _ | apply List.Mem.tail)) (by first | exact row_a16 | exact row_i35 | exact row_val | exact row_a32 | exact row_e35 | exact row_v35 | exact row_sig | exact row_evi | exact row_half | exact row_dig | exact row_i2 | exact row_i3 | exact row_b3 | exact row_h2 | exact row_pair) ?_) | (refine wpList_mem_num hM rfl _ _ (by rfl) _ _ (by rfl) _ _ _ _ (by repeat (first | exact List.Mem.head _ | apply List.Mem.tail)) (by first | exact one_u8 | exact one_int | exact one_u32 | exact one_bool | exact one_errno | exact one_u16 | exact one_sl) (by omega) ?_)) | ((with_reducible refine at_store ?_); first | (refine wpList_mem_store hM rfl _ _ _ (by rfl) _ (by rfl) _ (by rfl) _ _ _ _ (by repeat (first | exact UpdL.head _ _ _ _ _ | apply UpdL.tail)) (by first | exact row_a16 | exact row_i35 | exact row_val | exact row_a32 | exact row_e35 | exact row_v35 | exact row_sig | exact row_evi | exact row_half | exact row_dig | exact row_i2 | exact row_i3 | exact row_b3 | exact row_h2 | exact row_pair) (by first | assumption | (simp; done) | (simp only [cellsOf_size]; first | assumption | exact half_length _ | exact split_length _ | exact firstV_length _ _ _ | exact stepV_length _ _ _ _ | exact valuesV_length _ _ _) | (simp [*]; done)) (by first | exact vals_one _ _ | exact evc_one | (simp [Value.oneCell']; done)) rfl ?_; clear hM; intro wx hM) | (refine wpList_mem_setnum hM rfl _ _ _ (by rfl) _ _ (by rfl) _ _ (by rfl) _ _ _ _ (by repeat (first | exact UpdL.head _ _ _ _ _ | apply UpdL.tail)) (by first | exact one_u8 | exact one_int | exact one_u32 | exact one_bool | exact one_errno | exact one_u16 | exact one_sl) (by omega) _ (by first | rfl | exact (Int.toNat_of_nonneg (by omega)).symm) rfl ?_; clear hM; intro wx hM)) | ((with_reducible refine at_alloc ?_); refine wpList_mem_zero hM rfl _ (by rfl) _ _ (by first | exact zero_a16 | exact zero_i35 | exact zero_i35' | exact zero_val | exact zero_a32 | exact zero_a32' | exact zero_e35 | exact zero_v35 | exact zero_sig | exact zero_evi | exact zero_half | exact zero_dig | exact zero_int | exact zero_u8 | exact zero_i2 | exact zero_i3 | exact zero_b3 | exact zero_h2 | exact zero_pair) ?_; clear hM; intro gx wx hM) | ((with_reducible refine at_box ?_); refine wpList_mem_box hM rfl _ _ (by rfl) _ (by rfl) _ (by first | exact row_a16 | exact row_i35 | exact row_val | exact row_a32 | exact row_e35 | exact row_v35 | exact row_sig | exact row_evi | exact row_half | exact row_dig | exact row_i2 | exact row_i3 | exact row_b3 | exact row_h2 | exact row_pair) (by first | assumption | (simp; done) | (simp only [cellsOf_size]; first | assumption | exact half_length _ | exact split_length _ | exact firstV_length _ _ _ | exact stepV_length _ _ _ _ | exact valuesV_length _ _ _) | (simp [*]; done)) ?_; clear hM; intro gx wx hM))
      exact ⟨⟨k + 1, by omega, by omega, by go_num, by rw [HU.out.2 hlt]; exact ((hM.subL (by repeat (first | exact List.Sublist.refl _ | exact List.nil_sublist _ | apply List.Sublist.cons_cons | apply List.Sublist.cons))).subR (by repeat (first | exact List.Sublist.refl _ | exact List.nil_sublist _ | apply List.Sublist.cons_cons | apply List.Sublist.cons)))⟩, by simp [intOf]; omega⟩
    · obtain rfl : k = n := by omega
      go_wp2_with (first | ((with_reducible refine at_load_g ?_ ?_); (· rfl); first | (refine wpList_mem_load hM rfl _ _ (by rfl) _ (by rfl) _ _ _ (by repeat (first | exact List.Mem.head _ | apply List.Mem.tail)) (by first | exact row_a16 | exact row_i35 | exact row_val | exact row_a32 | exact row_e35 | exact row_v35 | exact row_sig | exact row_evi | exact row_half | exact row_dig | exact row_i2 | exact row_i3 | exact row_b3 | exact row_h2 | exact row_pair) ?_) | (refine wpList_mem_num hM rfl _ _ (by rfl) _ _ (by rfl) _ _ _ _ (by repeat (first | exact List.Mem.head _ | apply List.Mem.tail)) (by first | exact one_u8 | exact one_int | exact one_u32 | exact one_bool | exact one_errno | exact one_u16 | exact one_sl) (by omega) ?_)) | ((with_reducible refine at_load ?_); first | (refine wpList_mem_load hM rfl _ _ (by rfl) _ (by rfl) _ _ _ (by repeat (first | exact List.Mem.head _ | apply List.Mem.tail)) (by first | exact row_a16 | exact row_i35 | exact row_val | exact row_a32 | exact row_e35 | exact row_v35 | exact row_sig | exact row_evi | exact row_half | exact row_dig | exact row_i2 | exact row_i3 | exact row_b3 | exact row_h2 | exact row_pair) ?_) | (refine wpList_mem_num hM rfl _ _ (by rfl) _ _ (by rfl) _ _ _ _ (by repeat (first | exact List.Mem.head _ | apply List.Mem.tail)) (by first | exact one_u8 | exact one_int | exact one_u32 | exact one_bool | exact one_errno | exact one_u16 | exact one_sl) (by omega) ?_)) | ((with_reducible refine at_store ?_); first | (refine wpList_mem_store hM rfl _ _ _ (by rfl) _ (by rfl) _ (by rfl) _ _ _ _ (by repeat (first | exact UpdL.head _ _ _ _ _ | apply UpdL.tail)) (by first | exact row_a16 | exact row_i35 | exact row_val | exact row_a32 | exact row_e35 | exact row_v35 | exact row_sig | exact row_evi | exact row_half | exact row_dig | exact row_i2 | exact row_i3 | exact row_b3 | exact row_h2 | exact row_pair) (by first | assumption | (simp; done) | (simp only [cellsOf_size]; first | assumption | exact half_length _ | exact split_length _ | exact firstV_length _ _ _ | exact stepV_length _ _ _ _ | exact valuesV_length _ _ _) | (simp [*]; done)) (by first | exact vals_one _ _ | exact evc_one | (simp [Value.oneCell']; done)) rfl ?_; clear hM; intro wx hM) | (refine wpList_mem_setnum hM rfl _ _ _ (by rfl) _ _ (by rfl) _ _ (by rfl) _ _ _ _ (by repeat (first | exact UpdL.head _ _ _ _ _ | apply UpdL.tail)) (by first | exact one_u8 | exact one_int | exact one_u32 | exact one_bool | exact one_errno | exact one_u16 | exact one_sl) (by omega) _ (by first | rfl | exact (Int.toNat_of_nonneg (by omega)).symm) rfl ?_; clear hM; intro wx hM)) | ((with_reducible refine at_alloc ?_); refine wpList_mem_zero hM rfl _ (by rfl) _ _ (by first | exact zero_a16 | exact zero_i35 | exact zero_i35' | exact zero_val | exact zero_a32 | exact zero_a32' | exact zero_e35 | exact zero_v35 | exact zero_sig | exact zero_evi | exact zero_half | exact zero_dig | exact zero_int | exact zero_u8 | exact zero_i2 | exact zero_i3 | exact zero_b3 | exact zero_h2 | exact zero_pair) ?_; clear hM; intro gx wx hM) | ((with_reducible refine at_box ?_); refine wpList_mem_box hM rfl _ _ (by rfl) _ (by rfl) _ (by first | exact row_a16 | exact row_i35 | exact row_val | exact row_a32 | exact row_e35 | exact row_v35 | exact row_sig | exact row_evi | exact row_half | exact row_dig | exact row_i2 | exact row_i3 | exact row_b3 | exact row_h2 | exact row_pair) (by first | assumption | (simp; done) | (simp only [cellsOf_size]; first | assumption | exact half_length _ | exact split_length _ | exact firstV_length _ _ _ | exact stepV_length _ _ _ _ | exact valuesV_length _ _ _) | (simp [*]; done)) ?_; clear hM; intro gx wx hM))
      have e2 : advV leaf chain m (k - m) v = u := HU.out.1.symm
      rw [e2]
      exact bodyPost_ret (results_mem_cell hM rfl (by rfl) (by repeat (first | exact List.Mem.head _ | apply List.Mem.tail)) (by first | exact row_a16 | exact row_i35 | exact row_val | exact row_a32 | exact row_e35 | exact row_v35 | exact row_sig | exact row_evi | exact row_half | exact row_dig | exact row_i2 | exact row_i3 | exact row_b3 | exact row_h2 | exact row_pair)) rfl ⟨rfl, hM.below⟩
end Go.Proofs.YtdnnjgjaffkdfaaDoor.Once
namespace Go.Proofs.YtdnnjgjaffkdfaaDoor.Once
open Go Go.RowKit Go.Bul Go.Bul.Hp
end Go.Proofs.YtdnnjgjaffkdfaaDoor.Once
