/- Plain arithmetic: SHA-256 on natural numbers, the definition that program and reference are both held against. No condition. -/
namespace Go.Bul

/-- Addition of 32-bit words. -/
def add32 (a b : Nat) : Nat := (a + b) % 4294967296
def rotr (x n : Nat) : Nat := (x >>> n) ||| ((x <<< (32 - n)) % 4294967296)
def s0 (x : Nat) : Nat := (rotr x 7 ^^^ rotr x 18) ^^^ (x >>> 3)
def s1 (x : Nat) : Nat := (rotr x 17 ^^^ rotr x 19) ^^^ (x >>> 10)
def S0 (x : Nat) : Nat := (rotr x 2 ^^^ rotr x 13) ^^^ rotr x 22
def S1 (x : Nat) : Nat := (rotr x 6 ^^^ rotr x 11) ^^^ rotr x 25
def chf (e f g : Nat) : Nat := (e &&& f) ^^^ ((4294967295 - e) &&& g)
def maj (a b c : Nat) : Nat := ((a &&& b) ^^^ (a &&& c)) ^^^ (b &&& c)

structure St where
  a : Nat
  b : Nat
  c : Nat
  d : Nat
  e : Nat
  f : Nat
  g : Nat
  h : Nat

def St.list (v : St) : List Nat := [v.a, v.b, v.c, v.d, v.e, v.f, v.g, v.h]
structure St.Ok (v : St) : Prop where
  a : v.a < 4294967296
  b : v.b < 4294967296
  c : v.c < 4294967296
  d : v.d < 4294967296
  e : v.e < 4294967296
  f : v.f < 4294967296
  g : v.g < 4294967296
  h : v.h < 4294967296

def one (v : St) (k w : Nat) : Nat := add32 (add32 (add32 (add32 v.h (S1 v.e)) (chf v.e v.f v.g)) k) w
def two (v : St) : Nat := add32 (S0 v.a) (maj v.a v.b v.c)
def rnd (v : St) (k w : Nat) : St := ⟨add32 (one v k w) (two v), v.a, v.b, v.c, add32 v.d (one v k w), v.e, v.f, v.g⟩
def plus (x y : St) : St := ⟨add32 x.a y.a, add32 x.b y.b, add32 x.c y.c, add32 x.d y.d, add32 x.e y.e, add32 x.f y.f, add32 x.g y.g, add32 x.h y.h⟩

def ks : List Nat := [
  0x428a2f98, 0x71374491, 0xb5c0fbcf, 0xe9b5dba5, 0x3956c25b, 0x59f111f1, 0x923f82a4, 0xab1c5ed5,
  0xd807aa98, 0x12835b01, 0x243185be, 0x550c7dc3, 0x72be5d74, 0x80deb1fe, 0x9bdc06a7, 0xc19bf174,
  0xe49b69c1, 0xefbe4786, 0x0fc19dc6, 0x240ca1cc, 0x2de92c6f, 0x4a7484aa, 0x5cb0a9dc, 0x76f988da,
  0x983e5152, 0xa831c66d, 0xb00327c8, 0xbf597fc7, 0xc6e00bf3, 0xd5a79147, 0x06ca6351, 0x14292967,
  0x27b70a85, 0x2e1b2138, 0x4d2c6dfc, 0x53380d13, 0x650a7354, 0x766a0abb, 0x81c2c92e, 0x92722c85,
  0xa2bfe8a1, 0xa81a664b, 0xc24b8b70, 0xc76c51a3, 0xd192e819, 0xd6990624, 0xf40e3585, 0x106aa070,
  0x19a4c116, 0x1e376c08, 0x2748774c, 0x34b0bcb5, 0x391c0cb3, 0x4ed8aa4a, 0x5b9cca4f, 0x682e6ff3,
  0x748f82ee, 0x78a5636f, 0x84c87814, 0x8cc70208, 0x90befffa, 0xa4506ceb, 0xbef9a3f7, 0xc67178f2]
def K (t : Nat) : Nat := ks.getD t 0
def ini : St := ⟨0x6a09e667, 0xbb67ae85, 0x3c6ef372, 0xa54ff53a, 0x510e527f, 0x9b05688c, 0x1f83d9ab, 0x5be0cd19⟩

/-- The words of the schedule of a block whose sixteen words are m. -/
def W (m : Nat → Nat) (t : Nat) : Nat :=
  if t < 16 then m t else add32 (add32 (add32 (s1 (W m (t - 2))) (W m (t - 7))) (s0 (W m (t - 15)))) (W m (t - 16))
termination_by t

def stAt (m : Nat → Nat) (h : St) : Nat → St
  | 0 => h
  | t + 1 => rnd (stAt m h t) (K t) (W m t)
def compress (h : St) (m : Nat → Nat) : St := plus h (stAt m h 64)

/-- The words of a block of bytes. -/
def word (b : List Nat) (i : Nat) : Nat := ((b.getD (4 * i) 0 * 256 + b.getD (4 * i + 1) 0) * 256 + b.getD (4 * i + 2) 0) * 256 + b.getD (4 * i + 3) 0
def runs : Nat → St → List Nat → St
  | 0, h, _ => h
  | n + 1, h, l => runs n (compress h (word (l.take 64))) (l.drop 64)
/-- The bytes of a word, the most significant one first. -/
def bytes4 (x : Nat) : List Nat := [x / 16777216 % 256, x / 65536 % 256, x / 256 % 256, x % 256]
def St.out (v : St) : List Nat := v.list.flatMap bytes4
def be64 (n : Nat) : List Nat := [n / 72057594037927936 % 256, n / 281474976710656 % 256, n / 1099511627776 % 256, n / 4294967296 % 256, n / 16777216 % 256, n / 65536 % 256, n / 256 % 256, n % 256]
def padding (n : Nat) : List Nat := 128 :: (List.replicate ((119 - n % 64) % 64) 0 ++ be64 (8 * n))
def padded (l : List Nat) : List Nat := l ++ padding l.length
def sha (l : List Nat) : List Nat := (runs ((padded l).length / 64) ini (padded l)).out

/-! ### The same, for evaluation: a window of sixteen words -/
def nextW (l : List Nat) : Nat := add32 (add32 (add32 (s1 (l.getD 14 0)) (l.getD 9 0)) (s0 (l.getD 1 0))) (l.getD 0 0)
def goW : List Nat → St → List Nat → St
  | [], v, _ => v
  | k :: r, v, l => goW r (rnd v k (l.getD 0 0)) (l.drop 1 ++ [nextW l])
theorem W_lo (m : Nat → Nat) {t : Nat} (h : t < 16) : W m t = m t := by rw [W, if_pos h]
theorem W_hi (m : Nat → Nat) (t : Nat) : W m (t + 16) = add32 (add32 (add32 (s1 (W m (t + 14))) (W m (t + 9))) (s0 (W m (t + 1)))) (W m t) := by
  rw [W, if_neg (by omega)]
  rfl
def win (m : Nat → Nat) (t : Nat) : List Nat := (List.range 16).map fun j => W m (t + j)
theorem win_getD (m : Nat → Nat) (t j : Nat) (h : j < 16) : (win m t).getD j 0 = W m (t + j) := by
  simp [win, List.getD, h]
theorem win_next (m : Nat → Nat) (t : Nat) : (win m t).drop 1 ++ [nextW (win m t)] = win m (t + 1) := by
  have hn : nextW (win m t) = W m (t + 16) := by
    rw [W_hi, nextW, win_getD _ _ _ (by omega), win_getD _ _ _ (by omega), win_getD _ _ _ (by omega), win_getD _ _ _ (by omega)]
    rfl
  rw [hn]
  simp [win, List.range_succ, Nat.add_assoc]
theorem goW_eq (m : Nat → Nat) (h : St) : ∀ (r : List Nat) (t : Nat), (∀ j, j < r.length → r.getD j 0 = K (t + j)) →
    goW r (stAt m h t) (win m t) = stAt m h (t + r.length) := by
  intro r
  induction r with
  | nil => intro t _; rfl
  | cons k r ih =>
    intro t hk
    have h0 : k = K t := by simpa using hk 0 (by simp)
    have h1 : (win m t).getD 0 0 = W m t := win_getD _ _ _ (by omega)
    rw [goW, h1, win_next, h0]
    have := ih (t + 1) (fun j hj => by
      have := hk (j + 1) (by simpa using hj)
      rw [show t + 1 + j = t + (j + 1) by omega]
      simpa using this)
    rw [List.length_cons, show t + (r.length + 1) = t + 1 + r.length by omega]
    exact this
theorem compress_eval (h : St) (m : Nat → Nat) : compress h m = plus h (goW ks h ((List.range 16).map m)) := by
  have hw : (List.range 16).map m = win m 0 := by
    simp [win, List.range_succ, W_lo]
  have e := goW_eq m h ks 0 (fun j hj => by simp [K])
  have hl : ks.length = 64 := rfl
  rw [hl, Nat.zero_add] at e
  rw [hw, compress, ← e]
  rfl
def runsE : Nat → St → List Nat → St
  | 0, h, _ => h
  | n + 1, h, l => runsE n (plus h (goW ks h ((List.range 16).map (word (l.take 64))))) (l.drop 64)
theorem runs_eval : ∀ (n : Nat) (h : St) (l : List Nat), runs n h l = runsE n h l := by
  intro n
  induction n with
  | zero => intro h l; rfl
  | succ n ih => intro h l; rw [runs, runsE, ih, compress_eval]
def shaE (l : List Nat) : List Nat := (runsE ((padded l).length / 64) ini (padded l)).out
theorem sha_eval (l : List Nat) : sha l = shaE l := by rw [sha, shaE, runs_eval]

end Go.Bul
