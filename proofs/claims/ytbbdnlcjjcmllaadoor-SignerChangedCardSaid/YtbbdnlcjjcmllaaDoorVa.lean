/- Plain arithmetic: SHA-256 on natural numbers, the definition that program and reference are both held against. No condition. Plain arithmetic: SHA-256 piece by piece: the state after the complete blocks of what has been written; bounds. No condition. Contracts of math/bits.RotateLeft32 (at the counts that the program uses) and sha256.rotate. Conditions: the word is below 2^32, the count is one of ten. -/
import Derived.Test.YtbbdnlcjjcmllaaDoorProg
import Derived.WalkKit
import Derived.Lib.Hide
namespace Go.Bul

/-- Addition of 32-bit words. -/
def add32 (a b : Nat) : Nat := (a + b) % 4294967296
def rotr (x n : Nat) : Nat := (x >>> n) ||| ((x <<< (32 - n)) % 4294967296)
def s0 (x : Nat) : Nat := (rotr x 7 ^^^ rotr x 18) ^^^ (x >>> 3)
def s1 (x : Nat) : Nat := (rotr x 17 ^^^ rotr x 19) ^^^ (x >>> 10)
def S0 (x : Nat) : Nat := (rotr x 2 ^^^ rotr x 13) ^^^ rotr x 22
def S1 (x : Nat) : Nat := (rotr x 6 ^^^ rotr x 11) ^^^ rotr x 25
def chf (e f g : Nat) : Nat := (e &&& f) ^^^ ((4294967295 - e) &&& g)
def maj (a b c : Nat) : Nat := ((a &&& b) ^^^ (a &&& c)) ^^^ (b &&& c)

structure St where
  a : Nat
  b : Nat
  c : Nat
  d : Nat
  e : Nat
  f : Nat
  g : Nat
  h : Nat

def St.list (v : St) : List Nat := [v.a, v.b, v.c, v.d, v.e, v.f, v.g, v.h]
structure St.Ok (v : St) : Prop where
  a : v.a < 4294967296
  b : v.b < 4294967296
  c : v.c < 4294967296
  d : v.d < 4294967296
  e : v.e < 4294967296
  f : v.f < 4294967296
  g : v.g < 4294967296
  h : v.h < 4294967296

def one (v : St) (k w : Nat) : Nat := add32 (add32 (add32 (add32 v.h (S1 v.e)) (chf v.e v.f v.g)) k) w
def two (v : St) : Nat := add32 (S0 v.a) (maj v.a v.b v.c)
def rnd (v : St) (k w : Nat) : St := ⟨add32 (one v k w) (two v), v.a, v.b, v.c, add32 v.d (one v k w), v.e, v.f, v.g⟩
def plus (x y : St) : St := ⟨add32 x.a y.a, add32 x.b y.b, add32 x.c y.c, add32 x.d y.d, add32 x.e y.e, add32 x.f y.f, add32 x.g y.g, add32 x.h y.h⟩

def ks : List Nat := [
  0x428a2f98, 0x71374491, 0xb5c0fbcf, 0xe9b5dba5, 0x3956c25b, 0x59f111f1, 0x923f82a4, 0xab1c5ed5,
  0xd807aa98, 0x12835b01, 0x243185be, 0x550c7dc3, 0x72be5d74, 0x80deb1fe, 0x9bdc06a7, 0xc19bf174,
  0xe49b69c1, 0xefbe4786, 0x0fc19dc6, 0x240ca1cc, 0x2de92c6f, 0x4a7484aa, 0x5cb0a9dc, 0x76f988da,
  0x983e5152, 0xa831c66d, 0xb00327c8, 0xbf597fc7, 0xc6e00bf3, 0xd5a79147, 0x06ca6351, 0x14292967,
  0x27b70a85, 0x2e1b2138, 0x4d2c6dfc, 0x53380d13, 0x650a7354, 0x766a0abb, 0x81c2c92e, 0x92722c85,
  0xa2bfe8a1, 0xa81a664b, 0xc24b8b70, 0xc76c51a3, 0xd192e819, 0xd6990624, 0xf40e3585, 0x106aa070,
  0x19a4c116, 0x1e376c08, 0x2748774c, 0x34b0bcb5, 0x391c0cb3, 0x4ed8aa4a, 0x5b9cca4f, 0x682e6ff3,
  0x748f82ee, 0x78a5636f, 0x84c87814, 0x8cc70208, 0x90befffa, 0xa4506ceb, 0xbef9a3f7, 0xc67178f2]
def K (t : Nat) : Nat := ks.getD t 0
def ini : St := ⟨0x6a09e667, 0xbb67ae85, 0x3c6ef372, 0xa54ff53a, 0x510e527f, 0x9b05688c, 0x1f83d9ab, 0x5be0cd19⟩

/-- The words of the schedule of a block whose sixteen words are m. -/
def W (m : Nat → Nat) (t : Nat) : Nat :=
  if t < 16 then m t else add32 (add32 (add32 (s1 (W m (t - 2))) (W m (t - 7))) (s0 (W m (t - 15)))) (W m (t - 16))
termination_by t

def stAt (m : Nat → Nat) (h : St) : Nat → St
  | 0 => h
  | t + 1 => rnd (stAt m h t) (K t) (W m t)
def compress (h : St) (m : Nat → Nat) : St := plus h (stAt m h 64)

/-- The words of a block of bytes. -/
def word (b : List Nat) (i : Nat) : Nat := ((b.getD (4 * i) 0 * 256 + b.getD (4 * i + 1) 0) * 256 + b.getD (4 * i + 2) 0) * 256 + b.getD (4 * i + 3) 0
def runs : Nat → St → List Nat → St
  | 0, h, _ => h
  | n + 1, h, l => runs n (compress h (word (l.take 64))) (l.drop 64)
/-- The bytes of a word, the most significant one first. -/
def bytes4 (x : Nat) : List Nat := [x / 16777216 % 256, x / 65536 % 256, x / 256 % 256, x % 256]
def St.out (v : St) : List Nat := v.list.flatMap bytes4
def be64 (n : Nat) : List Nat := [n / 72057594037927936 % 256, n / 281474976710656 % 256, n / 1099511627776 % 256, n / 4294967296 % 256, n / 16777216 % 256, n / 65536 % 256, n / 256 % 256, n % 256]
def padding (n : Nat) : List Nat := 128 :: (List.replicate ((119 - n % 64) % 64) 0 ++ be64 (8 * n))
def padded (l : List Nat) : List Nat := l ++ padding l.length
def sha (l : List Nat) : List Nat := (runs ((padded l).length / 64) ini (padded l)).out

/-! ### The same, for evaluation: a window of sixteen words -/
theorem W_lo (m : Nat → Nat) {t : Nat} (h : t < 16) : W m t = m t := by rw [W, if_pos h]
theorem W_hi (m : Nat → Nat) (t : Nat) : W m (t + 16) = add32 (add32 (add32 (s1 (W m (t + 14))) (W m (t + 9))) (s0 (W m (t + 1)))) (W m t) := by
  rw [W, if_neg (by omega)]
  rfl
def win (m : Nat → Nat) (t : Nat) : List Nat := (List.range 16).map fun j => W m (t + j)
end Go.Bul
namespace Go.Bul
theorem runs_append : ∀ (n : Nat) (h : St) (l r : List Nat), 64 * n ≤ l.length → runs n h (l ++ r) = runs n h l := by
  intro n
  induction n with
  | zero => intro h l r _; rfl
  | succ n ih =>
    intro h l r hl
    rw [runs, runs, List.take_append_of_le_length (by omega), List.drop_append_of_le_length (by omega)]
    exact ih _ _ _ (by rw [List.length_drop]; omega)
theorem runs_succ : ∀ (n : Nat) (h : St) (l : List Nat), runs (n + 1) h l = compress (runs n h l) (word ((l.drop (64 * n)).take 64)) := by
  intro n
  induction n with
  | zero => intro h l; simp [runs]
  | succ n ih =>
    intro h l
    rw [runs, ih, runs, List.drop_drop]
    rw [show 64 + 64 * n = 64 * (n + 1) by omega]
/-- The state after the complete blocks. -/
def after (l : List Nat) : St := runs (l.length / 64) ini l
/-- The bytes behind the complete blocks. -/
def rest (l : List Nat) : List Nat := l.drop (64 * (l.length / 64))
theorem rest_length (l : List Nat) : (rest l).length = l.length % 64 := by rw [rest, List.length_drop]; omega
theorem after_part {l b : List Nat} (h : l.length % 64 + b.length < 64) : after (l ++ b) = after l ∧ rest (l ++ b) = rest l ++ b := by
  have e : (l.length + b.length) / 64 = l.length / 64 := by omega
  refine ⟨?_, ?_⟩
  · rw [after, after, List.length_append, e, runs_append _ _ _ _ (by omega)]
  · rw [rest, rest, List.length_append, e, List.drop_append_of_le_length (by omega)]
theorem after_full {l b : List Nat} (h : l.length % 64 + b.length = 64) : after (l ++ b) = compress (after l) (word (rest l ++ b)) ∧ rest (l ++ b) = [] := by
  have e : (l.length + b.length) / 64 = l.length / 64 + 1 := by omega
  refine ⟨?_, ?_⟩
  · rw [after, List.length_append, e, runs_succ, runs_append _ _ _ _ (by omega), List.drop_append_of_le_length (by omega), ← after, ← rest]
    rw [List.take_of_length_le (by rw [List.length_append, rest_length]; omega)]
  · rw [rest, List.length_append, e]
    exact List.drop_eq_nil_of_le (by rw [List.length_append]; omega)
theorem sha_after (l : List Nat) : sha l = (after (padded l)).out := rfl

theorem add32_lt (a b : Nat) : add32 a b < 4294967296 := by unfold add32; omega
theorem plus_ok (x y : St) : (plus x y).Ok := ⟨add32_lt _ _, add32_lt _ _, add32_lt _ _, add32_lt _ _, add32_lt _ _, add32_lt _ _, add32_lt _ _, add32_lt _ _⟩
theorem rnd_ok {v : St} (h : v.Ok) (k w : Nat) : (rnd v k w).Ok := ⟨add32_lt _ _, h.a, h.b, h.c, add32_lt _ _, h.e, h.f, h.g⟩
theorem ini_ok : ini.Ok := ⟨by decide, by decide, by decide, by decide, by decide, by decide, by decide, by decide⟩
theorem compress_ok (h : St) (m : Nat → Nat) : (compress h m).Ok := plus_ok _ _
theorem runs_ok : ∀ (n : Nat) {h : St} (_ : h.Ok) (l : List Nat), (runs n h l).Ok := by
  intro n
  induction n with
  | zero => intro h hh l; exact hh
  | succ n ih => intro h hh l; exact ih (compress_ok _ _) _
theorem after_ok (l : List Nat) : (after l).Ok := runs_ok _ ini_ok _
theorem stAt_ok {m : Nat → Nat} {h : St} (hh : h.Ok) : ∀ t, (stAt m h t).Ok
  | 0 => hh
  | t + 1 => rnd_ok (stAt_ok hh t) _ _
theorem W_lt {m : Nat → Nat} (hm : ∀ t, t < 16 → m t < 4294967296) (t : Nat) : W m t < 4294967296 := by
  rw [W]
  split
  · exact hm t ‹_›
  · exact add32_lt _ _
/-- Every element is a byte. -/
def Bytes (l : List Nat) : Prop := ∀ x ∈ l, x < 256
theorem Bytes.nil : Bytes [] := fun _ h => by cases h
theorem Bytes.append {l r : List Nat} (h : Bytes l) (k : Bytes r) : Bytes (l ++ r) := fun x hx => by
  rcases List.mem_append.1 hx with hx | hx
  · exact h x hx
  · exact k x hx
theorem Bytes.left {l r : List Nat} (h : Bytes (l ++ r)) : Bytes l := fun x hx => h x (List.mem_append.2 (.inl hx))
theorem Bytes.right {l r : List Nat} (h : Bytes (l ++ r)) : Bytes r := fun x hx => h x (List.mem_append.2 (.inr hx))
theorem Bytes.take {l : List Nat} (h : Bytes l) (n : Nat) : Bytes (l.take n) := fun x hx => h x (List.mem_of_mem_take hx)
theorem Bytes.drop {l : List Nat} (h : Bytes l) (n : Nat) : Bytes (l.drop n) := fun x hx => h x (List.mem_of_mem_drop hx)
theorem Bytes.cons {l : List Nat} {x : Nat} (hx : x < 256) (h : Bytes l) : Bytes (x :: l) := fun y hy => by
  rcases List.mem_cons.1 hy with rfl | hy
  · exact hx
  · exact h y hy
theorem Bytes.getD {l : List Nat} (h : Bytes l) (i : Nat) : l.getD i 0 < 256 := by
  rw [List.getD]
  cases e : l[i]? with
  | none => simp
  | some x => exact h x (List.mem_of_getElem? e)
theorem bytes_rep (n : Nat) : Bytes (List.replicate n 0) := fun x hx => by rw [List.eq_of_mem_replicate hx]; omega
theorem bytes_be64 (n : Nat) : Bytes (be64 n) := by
  intro x hx
  simp only [be64, List.mem_cons, List.not_mem_nil, or_false] at hx
  omega
theorem bytes_padding (n : Nat) : Bytes (padding n) := Bytes.cons (by omega) ((bytes_rep _).append (bytes_be64 _))
theorem bytes_bytes4 (x : Nat) : Bytes (bytes4 x) := by
  intro y hy
  simp only [bytes4, List.mem_cons, List.not_mem_nil, or_false] at hy
  omega
theorem St.out_eq (v : St) : v.out = bytes4 v.a ++ (bytes4 v.b ++ (bytes4 v.c ++ (bytes4 v.d ++ (bytes4 v.e ++ (bytes4 v.f ++ (bytes4 v.g ++ bytes4 v.h)))))) := by
  simp [St.out, St.list]
theorem out_length (v : St) : v.out.length = 32 := by rw [St.out_eq]; rfl
theorem bytes_out (v : St) : Bytes v.out := by
  rw [St.out_eq]
  exact (bytes_bytes4 _).append ((bytes_bytes4 _).append ((bytes_bytes4 _).append ((bytes_bytes4 _).append ((bytes_bytes4 _).append ((bytes_bytes4 _).append ((bytes_bytes4 _).append (bytes_bytes4 _)))))))
theorem sha_length (l : List Nat) : (sha l).length = 32 := out_length _
theorem bytes_sha (l : List Nat) : Bytes (sha l) := bytes_out _
theorem word_lt {b : List Nat} (h : Bytes b) (i : Nat) : word b i < 4294967296 := by
  have h0 := h.getD (4 * i)
  have h1 := h.getD (4 * i + 1)
  have h2 := h.getD (4 * i + 2)
  have h3 := h.getD (4 * i + 3)
  unfold word
  omega
/-- The first half of a digest. -/
def half (l : List Nat) : List Nat := (sha l).take 16
theorem half_length (l : List Nat) : (half l).length = 16 := by rw [half, List.length_take, sha_length]; rfl
theorem bytes_half (l : List Nat) : Bytes (half l) := (bytes_sha l).take _
end Go.Bul
namespace Go.Proofs.YtbbdnlcjjcmllaaDoor
open Go Go.RowKit
def IsRot (n : Nat) : Prop := n = 2 ∨ n = 13 ∨ n = 22 ∨ n = 6 ∨ n = 11 ∨ n = 25 ∨ n = 7 ∨ n = 18 ∨ n = 17 ∨ n = 19
theorem ret_u32 {a b : Int} (h : a = b) : Ending.returned (.int .u32 a) = .returned (.int .u32 b) := by rw [h]
theorem rotr_lt (x n : Nat) (hx : x < 4294967296) : Bul.rotr x n < 4294967296 := by
  unfold Bul.rotr
  refine Nat.or_lt_two_pow (n := 32) ?_ ?_
  · exact Nat.lt_of_le_of_lt (by rw [Nat.shiftRight_eq_div_pow]; exact Nat.div_le_self _ _) hx
  · exact Nat.mod_lt _ (by decide)
theorem rot_math (x n : Nat) (hx : x < 4294967296) (a b : Int) (ha : a = ((x * 2 ^ (32 - n) % 4294967296 : Nat) : Int)) (hb : b = ((x / 2 ^ n : Nat) : Int)) : bits .or .u32 a b = ((Bul.rotr x n : Nat) : Int) := by
  rw [ha, hb, u32_or_nat _ _ (Nat.mod_lt _ (by decide)) (Nat.lt_of_le_of_lt (Nat.div_le_self _ _) hx), Nat.or_comm, Bul.rotr, Nat.shiftRight_eq_div_pow, Nat.shiftLeft_eq]
set_option maxHeartbeats 400000 in
theorem rot_lib (x n : Nat) (w : World) (hx : x < 4294967296) (hn : IsRot n) (y : Int) (hy : y = -(n : Int)) :
    Calls Tryd.prog 86 #[.int .u32 x, .int .i64 y] w fun e w' => e = .returned (.int .u32 (Bul.rotr x n : Nat)) ∧ w = w' := by
  have h2 : bits BinOp.and .u64 (IntKind.u64.wrap (-2)) 31 = 30 := by decide
  have h13 : bits BinOp.and .u64 (IntKind.u64.wrap (-13)) 31 = 19 := by decide
  have h22 : bits BinOp.and .u64 (IntKind.u64.wrap (-22)) 31 = 10 := by decide
  have h6 : bits BinOp.and .u64 (IntKind.u64.wrap (-6)) 31 = 26 := by decide
  have h11 : bits BinOp.and .u64 (IntKind.u64.wrap (-11)) 31 = 21 := by decide
  have h25 : bits BinOp.and .u64 (IntKind.u64.wrap (-25)) 31 = 7 := by decide
  have h7 : bits BinOp.and .u64 (IntKind.u64.wrap (-7)) 31 = 25 := by decide
  have h18 : bits BinOp.and .u64 (IntKind.u64.wrap (-18)) 31 = 14 := by decide
  have h17 : bits BinOp.and .u64 (IntKind.u64.wrap (-17)) 31 = 15 := by decide
  have h19 : bits BinOp.and .u64 (IntKind.u64.wrap (-19)) 31 = 13 := by decide
  subst hy
  rcases hn with rfl | rfl | rfl | rfl | rfl | rfl | rfl | rfl | rfl | rfl
  all_goals
    go_enter Tryd.func86, Tryd.ntmps86
    go_wp2
    go_ret
    exact ⟨ret_u32 (rot_math x _ hx _ _ (by simp) (by simp)), rfl⟩
set_option maxHeartbeats 400000 in
theorem rot_any (x n : Nat) (w : World) (hx : x < 4294967296) (hn : IsRot n) (y : Int) (hy : y = (n : Int)) :
    Calls Tryd.prog 83 #[.int .u32 x, .int .i64 y] w fun e w' => e = .returned (.int .u32 (Bul.rotr x n : Nat)) ∧ w = w' := by
  have h0 : 0 ≤ y ∧ y ≤ 31 := by rcases hn with h | h | h | h | h | h | h | h | h | h <;> omega
  obtain ⟨h0, h1⟩ := h0
  have H := Lib.hid hn
  have Y := Lib.hid hy
  clear hn hy
  go_enter Tryd.func83, Tryd.ntmps83
  go_wp2_with (go_at_call 86; refine (rot_lib x n _ hx H.out _ (by rw [Y.out])).mono ?_; rintro e w' ⟨rfl, rfl⟩)
  go_ret
  exact ⟨rfl, rfl⟩
end Go.Proofs.YtbbdnlcjjcmllaaDoor
