/- Base64, plain: groups of six bits, their letters. -/
import Derived.Test.YtbbdnlcjjcmllaaDoorSgl
namespace Go.Lin
open Go Go.Bul
/-- The groups of six that c bits give; what is left. -/
def emitL (b c : Nat) : List Nat := if _h : 6 ≤ c then b / 2 ^ (c - 6) :: emitL (b % 2 ^ (c - 6)) (c - 6) else []
termination_by c
def remB (b c : Nat) : Nat × Nat := if _h : 6 ≤ c then remB (b % 2 ^ (c - 6)) (c - 6) else (b, c)
termination_by c
theorem emitL_yes {b c : Nat} (h : 6 ≤ c) : emitL b c = b / 2 ^ (c - 6) :: emitL (b % 2 ^ (c - 6)) (c - 6) := by rw [emitL, dif_pos h]
theorem emitL_no {b c : Nat} (h : ¬ 6 ≤ c) : emitL b c = [] := by rw [emitL, dif_neg h]
theorem remB_yes {b c : Nat} (h : 6 ≤ c) : remB b c = remB (b % 2 ^ (c - 6)) (c - 6) := by rw [remB, dif_pos h]
theorem remB_no {b c : Nat} (h : ¬ 6 ≤ c) : remB b c = (b, c) := by rw [remB, dif_neg h]
theorem emitL_length (c : Nat) : ∀ b : Nat, (emitL b c).length = c / 6 := by
  induction c using Nat.strongRecOn with
  | ind c ih =>
    intro b
    by_cases h : 6 ≤ c
    · rw [emitL_yes h, List.length_cons, ih (c - 6) (by omega)]
      omega
    · rw [emitL_no h]
      simp
      omega
theorem remB_2 (c : Nat) : ∀ b : Nat, (remB b c).2 = c % 6 := by
  induction c using Nat.strongRecOn with
  | ind c ih =>
    intro b
    by_cases h : 6 ≤ c
    · rw [remB_yes h, ih (c - 6) (by omega)]
      omega
    · rw [remB_no h]
      simp
      omega
theorem remB_lt (c : Nat) : ∀ b : Nat, b < 2 ^ c → (remB b c).1 < 2 ^ (c % 6) := by
  induction c using Nat.strongRecOn with
  | ind c ih =>
    intro b hb
    by_cases h : 6 ≤ c
    · rw [remB_yes h]
      have := ih (c - 6) (by omega) (b % 2 ^ (c - 6)) (Nat.mod_lt _ (Nat.pow_pos (by decide)))
      rwa [show (c - 6) % 6 = c % 6 by omega] at this
    · rw [remB_no h, Nat.mod_eq_of_lt (by omega)]
      exact hb
def encO : Nat → Nat → List Nat → List Nat
  | b, c, [] => if 0 < c then [b * 2 ^ (6 - c)] else []
  | b, c, x :: xs => emitL (b * 256 + x) (c + 8) ++ encO (remB (b * 256 + x) (c + 8)).1 (remB (b * 256 + x) (c + 8)).2 xs
theorem encO_length : ∀ (xs : List Nat) (b c : Nat), c < 6 → (encO b c xs).length = (c + 8 * xs.length + 5) / 6
  | [], b, c, hc => by
    unfold encO
    split
    · simp; omega
    · simp; omega
  | x :: xs, b, c, hc => by
    rw [encO, List.length_append, emitL_length, encO_length xs _ _ (by rw [remB_2]; omega), remB_2, List.length_cons]
    omega
def alL : List Nat := [65, 66, 67, 68, 69, 70, 71, 72, 73, 74, 75, 76, 77, 78, 79, 80, 81, 82, 83, 84, 85, 86, 87, 88, 89, 90, 97, 98, 99, 100, 101, 102, 103, 104, 105, 106, 107, 108, 109, 110, 111, 112, 113, 114, 115, 116, 117, 118, 119, 120, 121, 122, 48, 49, 50, 51, 52, 53, 54, 55, 56, 57, 43, 47]
def alf (i : Nat) : Nat := alL.getD i 0
def padN (k : Nat) : Nat := (4 - k % 4) % 4
def encT (bs : List Nat) : List Nat := (encO 0 0 bs).map alf ++ List.replicate (padN (encO 0 0 bs).length) 61
theorem encT_length (bs : List Nat) : (encT bs).length = (bs.length + 2) / 3 * 4 := by
  unfold encT padN
  rw [List.length_append, List.length_map, List.length_replicate, encO_length bs 0 0 (by decide)]
  omega
theorem or_bits : ∀ (b : Fin 16) (x : Fin 256), bits BinOp.or IntKind.i64 ((b.val * 256 : Nat) : Int) (x.val : Int) = ((b.val * 256 + x.val : Nat) : Int) := by decide +kernel
theorem and_bits' : ∀ (c : Fin 7) (i : Fin 64) (j : Fin 64), bits BinOp.and IntKind.i64 ((i.val * 64 + j.val : Nat) : Int) ((2 ^ c.val - 1 : Nat) : Int) = (((i.val * 64 + j.val) % 2 ^ c.val : Nat) : Int) := by decide +kernel
theorem and_bits (c b : Nat) (hc : c < 7) (hb : b < 4096) : bits BinOp.and IntKind.i64 (b : Int) ((2 ^ c - 1 : Nat) : Int) = ((b % 2 ^ c : Nat) : Int) := by
  have h := and_bits' ⟨c, hc⟩ ⟨b / 64, by omega⟩ ⟨b % 64, by omega⟩
  simp only [show b / 64 * 64 + b % 64 = b by omega] at h
  exact h
end Go.Lin
