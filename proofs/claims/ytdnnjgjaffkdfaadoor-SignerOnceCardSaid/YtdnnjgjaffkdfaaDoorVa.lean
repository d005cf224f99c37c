/- Plain arithmetic: SHA-256 on natural numbers, the definition that program and reference are both held against. No condition. Plain arithmetic: SHA-256 piece by piece: the state after the complete blocks of what has been written; bounds. No condition. Regions whose order is drawn, over a class of worlds: a quiet head in any order, then a tail in one forced order. Regions whose order is drawn, by an invariant: what each operation that has been listed has left. Regions whose order is drawn, step by step in an order of one's own choice: operations that yield in every world, blocks of quiet operations, forced ones. -/
import Derived.StillTail
import Derived.StillTailTactics
import Derived.Deep.Quiet
import Derived.Deep.QuietTactic
import Derived.OwnWalk
namespace Go.Bul

/-- Addition of 32-bit words. -/
def add32 (a b : Nat) : Nat := (a + b) % 4294967296
def rotr (x n : Nat) : Nat := (x >>> n) ||| ((x <<< (32 - n)) % 4294967296)
def s0 (x : Nat) : Nat := (rotr x 7 ^^^ rotr x 18) ^^^ (x >>> 3)
def s1 (x : Nat) : Nat := (rotr x 17 ^^^ rotr x 19) ^^^ (x >>> 10)
def S0 (x : Nat) : Nat := (rotr x 2 ^^^ rotr x 13) ^^^ rotr x 22
def S1 (x : Nat) : Nat := (rotr x 6 ^^^ rotr x 11) ^^^ rotr x 25
def chf (e f g : Nat) : Nat := (e &&& f) ^^^ ((4294967295 - e) &&& g)
def maj (a b c : Nat) : Nat := ((a &&& b) ^^^ (a &&& c)) ^^^ (b &&& c)

structure St where
  a : Nat
  b : Nat
  c : Nat
  d : Nat
  e : Nat
  f : Nat
  g : Nat
  h : Nat

def St.list (v : St) : List Nat := [v.a, v.b, v.c, v.d, v.e, v.f, v.g, v.h]
structure St.Ok (v : St) : Prop where
  a : v.a < 4294967296
  b : v.b < 4294967296
  c : v.c < 4294967296
  d : v.d < 4294967296
  e : v.e < 4294967296
  f : v.f < 4294967296
  g : v.g < 4294967296
  h : v.h < 4294967296

def one (v : St) (k w : Nat) : Nat := add32 (add32 (add32 (add32 v.h (S1 v.e)) (chf v.e v.f v.g)) k) w
def two (v : St) : Nat := add32 (S0 v.a) (maj v.a v.b v.c)
def rnd (v : St) (k w : Nat) : St := ⟨add32 (one v k w) (two v), v.a, v.b, v.c, add32 v.d (one v k w), v.e, v.f, v.g⟩
def plus (x y : St) : St := ⟨add32 x.a y.a, add32 x.b y.b, add32 x.c y.c, add32 x.d y.d, add32 x.e y.e, add32 x.f y.f, add32 x.g y.g, add32 x.h y.h⟩

def ks : List Nat := [
  0x428a2f98, 0x71374491, 0xb5c0fbcf, 0xe9b5dba5, 0x3956c25b, 0x59f111f1, 0x923f82a4, 0xab1c5ed5,
  0xd807aa98, 0x12835b01, 0x243185be, 0x550c7dc3, 0x72be5d74, 0x80deb1fe, 0x9bdc06a7, 0xc19bf174,
  0xe49b69c1, 0xefbe4786, 0x0fc19dc6, 0x240ca1cc, 0x2de92c6f, 0x4a7484aa, 0x5cb0a9dc, 0x76f988da,
  0x983e5152, 0xa831c66d, 0xb00327c8, 0xbf597fc7, 0xc6e00bf3, 0xd5a79147, 0x06ca6351, 0x14292967,
  0x27b70a85, 0x2e1b2138, 0x4d2c6dfc, 0x53380d13, 0x650a7354, 0x766a0abb, 0x81c2c92e, 0x92722c85,
  0xa2bfe8a1, 0xa81a664b, 0xc24b8b70, 0xc76c51a3, 0xd192e819, 0xd6990624, 0xf40e3585, 0x106aa070,
  0x19a4c116, 0x1e376c08, 0x2748774c, 0x34b0bcb5, 0x391c0cb3, 0x4ed8aa4a, 0x5b9cca4f, 0x682e6ff3,
  0x748f82ee, 0x78a5636f, 0x84c87814, 0x8cc70208, 0x90befffa, 0xa4506ceb, 0xbef9a3f7, 0xc67178f2]
def K (t : Nat) : Nat := ks.getD t 0
def ini : St := ⟨0x6a09e667, 0xbb67ae85, 0x3c6ef372, 0xa54ff53a, 0x510e527f, 0x9b05688c, 0x1f83d9ab, 0x5be0cd19⟩

/-- The words of the schedule of a block whose sixteen words are m. -/
def W (m : Nat → Nat) (t : Nat) : Nat :=
  if t < 16 then m t else add32 (add32 (add32 (s1 (W m (t - 2))) (W m (t - 7))) (s0 (W m (t - 15)))) (W m (t - 16))
termination_by t

def stAt (m : Nat → Nat) (h : St) : Nat → St
  | 0 => h
  | t + 1 => rnd (stAt m h t) (K t) (W m t)
def compress (h : St) (m : Nat → Nat) : St := plus h (stAt m h 64)

/-- The words of a block of bytes. -/
def word (b : List Nat) (i : Nat) : Nat := ((b.getD (4 * i) 0 * 256 + b.getD (4 * i + 1) 0) * 256 + b.getD (4 * i + 2) 0) * 256 + b.getD (4 * i + 3) 0
def runs : Nat → St → List Nat → St
  | 0, h, _ => h
  | n + 1, h, l => runs n (compress h (word (l.take 64))) (l.drop 64)
/-- The bytes of a word, the most significant one first. -/
def bytes4 (x : Nat) : List Nat := [x / 16777216 % 256, x / 65536 % 256, x / 256 % 256, x % 256]
def St.out (v : St) : List Nat := v.list.flatMap bytes4
def be64 (n : Nat) : List Nat := [n / 72057594037927936 % 256, n / 281474976710656 % 256, n / 1099511627776 % 256, n / 4294967296 % 256, n / 16777216 % 256, n / 65536 % 256, n / 256 % 256, n % 256]
def padding (n : Nat) : List Nat := 128 :: (List.replicate ((119 - n % 64) % 64) 0 ++ be64 (8 * n))
def padded (l : List Nat) : List Nat := l ++ padding l.length
def sha (l : List Nat) : List Nat := (runs ((padded l).length / 64) ini (padded l)).out

/-! ### The same, for evaluation: a window of sixteen words -/
theorem W_lo (m : Nat → Nat) {t : Nat} (h : t < 16) : W m t = m t := by rw [W, if_pos h]
theorem W_hi (m : Nat → Nat) (t : Nat) : W m (t + 16) = add32 (add32 (add32 (s1 (W m (t + 14))) (W m (t + 9))) (s0 (W m (t + 1)))) (W m t) := by
  rw [W, if_neg (by omega)]
  rfl
def win (m : Nat → Nat) (t : Nat) : List Nat := (List.range 16).map fun j => W m (t + j)
end Go.Bul
namespace Go.Bul
theorem runs_append : ∀ (n : Nat) (h : St) (l r : List Nat), 64 * n ≤ l.length → runs n h (l ++ r) = runs n h l := by
  intro n
  induction n with
  | zero => intro h l r _; rfl
  | succ n ih =>
    intro h l r hl
    rw [runs, runs, List.take_append_of_le_length (by omega), List.drop_append_of_le_length (by omega)]
    exact ih _ _ _ (by rw [List.length_drop]; omega)
theorem runs_succ : ∀ (n : Nat) (h : St) (l : List Nat), runs (n + 1) h l = compress (runs n h l) (word ((l.drop (64 * n)).take 64)) := by
  intro n
  induction n with
  | zero => intro h l; simp [runs]
  | succ n ih =>
    intro h l
    rw [runs, ih, runs, List.drop_drop]
    rw [show 64 + 64 * n = 64 * (n + 1) by omega]
/-- The state after the complete blocks. -/
def after (l : List Nat) : St := runs (l.length / 64) ini l
theorem after_nil : after [] = ini := rfl
/-- The bytes behind the complete blocks. -/
def rest (l : List Nat) : List Nat := l.drop (64 * (l.length / 64))
theorem rest_length (l : List Nat) : (rest l).length = l.length % 64 := by rw [rest, List.length_drop]; omega
theorem after_part {l b : List Nat} (h : l.length % 64 + b.length < 64) : after (l ++ b) = after l ∧ rest (l ++ b) = rest l ++ b := by
  have e : (l.length + b.length) / 64 = l.length / 64 := by omega
  refine ⟨?_, ?_⟩
  · rw [after, after, List.length_append, e, runs_append _ _ _ _ (by omega)]
  · rw [rest, rest, List.length_append, e, List.drop_append_of_le_length (by omega)]
theorem after_full {l b : List Nat} (h : l.length % 64 + b.length = 64) : after (l ++ b) = compress (after l) (word (rest l ++ b)) ∧ rest (l ++ b) = [] := by
  have e : (l.length + b.length) / 64 = l.length / 64 + 1 := by omega
  refine ⟨?_, ?_⟩
  · rw [after, List.length_append, e, runs_succ, runs_append _ _ _ _ (by omega), List.drop_append_of_le_length (by omega), ← after, ← rest]
    rw [List.take_of_length_le (by rw [List.length_append, rest_length]; omega)]
  · rw [rest, List.length_append, e]
    exact List.drop_eq_nil_of_le (by rw [List.length_append]; omega)
theorem padding_length (n : Nat) : (padding n).length = 9 + (119 - n % 64) % 64 := by
  simp [padding, be64]; omega
theorem sha_after (l : List Nat) : sha l = (after (padded l)).out := rfl

theorem add32_lt (a b : Nat) : add32 a b < 4294967296 := by unfold add32; omega
theorem plus_ok (x y : St) : (plus x y).Ok := ⟨add32_lt _ _, add32_lt _ _, add32_lt _ _, add32_lt _ _, add32_lt _ _, add32_lt _ _, add32_lt _ _, add32_lt _ _⟩
theorem rnd_ok {v : St} (h : v.Ok) (k w : Nat) : (rnd v k w).Ok := ⟨add32_lt _ _, h.a, h.b, h.c, add32_lt _ _, h.e, h.f, h.g⟩
theorem ini_ok : ini.Ok := ⟨by decide, by decide, by decide, by decide, by decide, by decide, by decide, by decide⟩
theorem compress_ok (h : St) (m : Nat → Nat) : (compress h m).Ok := plus_ok _ _
theorem runs_ok : ∀ (n : Nat) {h : St} (_ : h.Ok) (l : List Nat), (runs n h l).Ok := by
  intro n
  induction n with
  | zero => intro h hh l; exact hh
  | succ n ih => intro h hh l; exact ih (compress_ok _ _) _
theorem after_ok (l : List Nat) : (after l).Ok := runs_ok _ ini_ok _
theorem stAt_ok {m : Nat → Nat} {h : St} (hh : h.Ok) : ∀ t, (stAt m h t).Ok
  | 0 => hh
  | t + 1 => rnd_ok (stAt_ok hh t) _ _
theorem W_lt {m : Nat → Nat} (hm : ∀ t, t < 16 → m t < 4294967296) (t : Nat) : W m t < 4294967296 := by
  rw [W]
  split
  · exact hm t ‹_›
  · exact add32_lt _ _
/-- Every element is a byte. -/
def Bytes (l : List Nat) : Prop := ∀ x ∈ l, x < 256
theorem Bytes.nil : Bytes [] := fun _ h => by cases h
theorem Bytes.append {l r : List Nat} (h : Bytes l) (k : Bytes r) : Bytes (l ++ r) := fun x hx => by
  rcases List.mem_append.1 hx with hx | hx
  · exact h x hx
  · exact k x hx
theorem Bytes.left {l r : List Nat} (h : Bytes (l ++ r)) : Bytes l := fun x hx => h x (List.mem_append.2 (.inl hx))
theorem Bytes.right {l r : List Nat} (h : Bytes (l ++ r)) : Bytes r := fun x hx => h x (List.mem_append.2 (.inr hx))
theorem Bytes.take {l : List Nat} (h : Bytes l) (n : Nat) : Bytes (l.take n) := fun x hx => h x (List.mem_of_mem_take hx)
theorem Bytes.drop {l : List Nat} (h : Bytes l) (n : Nat) : Bytes (l.drop n) := fun x hx => h x (List.mem_of_mem_drop hx)
theorem Bytes.cons {l : List Nat} {x : Nat} (hx : x < 256) (h : Bytes l) : Bytes (x :: l) := fun y hy => by
  rcases List.mem_cons.1 hy with rfl | hy
  · exact hx
  · exact h y hy
theorem Bytes.getD {l : List Nat} (h : Bytes l) (i : Nat) : l.getD i 0 < 256 := by
  rw [List.getD]
  cases e : l[i]? with
  | none => simp
  | some x => exact h x (List.mem_of_getElem? e)
theorem bytes_rep (n : Nat) : Bytes (List.replicate n 0) := fun x hx => by rw [List.eq_of_mem_replicate hx]; omega
theorem bytes_be64 (n : Nat) : Bytes (be64 n) := by
  intro x hx
  simp only [be64, List.mem_cons, List.not_mem_nil, or_false] at hx
  omega
theorem bytes_padding (n : Nat) : Bytes (padding n) := Bytes.cons (by omega) ((bytes_rep _).append (bytes_be64 _))
theorem bytes_bytes4 (x : Nat) : Bytes (bytes4 x) := by
  intro y hy
  simp only [bytes4, List.mem_cons, List.not_mem_nil, or_false] at hy
  omega
theorem St.out_eq (v : St) : v.out = bytes4 v.a ++ (bytes4 v.b ++ (bytes4 v.c ++ (bytes4 v.d ++ (bytes4 v.e ++ (bytes4 v.f ++ (bytes4 v.g ++ bytes4 v.h)))))) := by
  simp [St.out, St.list]
theorem out_length (v : St) : v.out.length = 32 := by rw [St.out_eq]; rfl
theorem bytes_out (v : St) : Bytes v.out := by
  rw [St.out_eq]
  exact (bytes_bytes4 _).append ((bytes_bytes4 _).append ((bytes_bytes4 _).append ((bytes_bytes4 _).append ((bytes_bytes4 _).append ((bytes_bytes4 _).append ((bytes_bytes4 _).append (bytes_bytes4 _)))))))
theorem sha_length (l : List Nat) : (sha l).length = 32 := out_length _
theorem bytes_sha (l : List Nat) : Bytes (sha l) := bytes_out _
theorem word_lt {b : List Nat} (h : Bytes b) (i : Nat) : word b i < 4294967296 := by
  have h0 := h.getD (4 * i)
  have h1 := h.getD (4 * i + 1)
  have h2 := h.getD (4 * i + 2)
  have h3 := h.getD (4 * i + 3)
  unfold word
  omega
/-- The first half of a digest. -/
def half (l : List Nat) : List Nat := (sha l).take 16
theorem half_length (l : List Nat) : (half l).length = 16 := by rw [half, List.length_take, sha_length]; rfl
theorem bytes_half (l : List Nat) : Bytes (half l) := (bytes_sha l).take _
end Go.Bul
namespace Go.Bul
open Go
section
variable {P : Program} {ops : Array Oper} {md : Region.Mode} {C : World → Prop}

/-- The head of n operations in whatever order comes up: each is quiet in the class; at the end L holds. -/
def anyHead (P : Program) (md : Region.Mode) (ops : Array Oper) (C : World → Prop) (n : Nat) (L : Array Bool → Act → Prop) : Nat → Array Bool → Act → Prop
  | 0, listed, a => L listed a
  | f + 1, listed, a => Region.ready md ops listed ≠ [] ∧ ∀ i ∈ Region.ready md ops listed, i < n ∧ qOp P ops C i (anyHead P md ops C n L f (listed.setIfInBounds i true)) a

theorem any_of_head {n g : Nat} {L : Array Bool → Act → Prop} {Q' : Exit → Act → World → Prop} (hL : ∀ listed a w, C w → L listed a → wpAny P md ops Q' g listed a w) :
    ∀ (f : Nat) (listed : Array Bool) (a : Act) (w : World), C w → anyHead P md ops C n L f listed a → wpAny P md ops Q' (f + g) listed a w
  | 0, listed, a, w, hw, h => by rw [Nat.zero_add]; exact hL _ _ _ hw h
  | f + 1, listed, a, w, hw, h => by
    rw [show f + 1 + g = (f + g) + 1 by omega]
    exact ⟨fun h0 => absurd h0 h.1, fun i hi => wpOp_of_qOp hw (fun a' w' hw' h' => any_of_head hL f _ a' w' hw' h') (h.2 i hi).2⟩

theorem head_first {n i : Nat} {oi : Oper} {v : Value} {L : Array Bool → Act → Prop} (hi : ops[i]? = some oi) (hsel : ∀ (j : Nat) (o : Oper) cs b, ops[j]? = some o → o.op ≠ .select cs b)
    (hs : Region.sinkB md ops n = true) (hc : Region.chainB md ops n = true) (hn : n < ops.size) (hin : i < n)
    (hdone : ∀ listed a, L listed a → ∀ j ∈ Region.ready md ops listed, n ≤ j) :
    ∀ (f : Nat) (listed : Array Bool) (a : Act), HeadInv md ops n listed →
      (∀ j oj, ops[j]? = some oj → j ≠ i → listed.getD j true = false → (∀ e ∈ oj.after, Region.binds md e = true → e.on ≠ i) → oi.apart ops oj = true) →
      i ∈ Region.ready md ops listed → YieldsIn P ops C oi v a →
      anyHead P md ops C n L f (listed.setIfInBounds i true) (a.put oi.dst v) → anyHead P md ops C n L (f + 1) listed a := by
  intro f
  induction f with
  | zero =>
    intro listed a inv _ hr hy H
    have hun := (mem_ready.1 hr).1
    refine ⟨List.ne_nil_of_mem hr, fun j hj => ?_⟩
    have hjn : j < n := Nat.lt_of_not_le fun h => tail_waits hs hc hn inv _ i rfl hin hun j h hj
    refine ⟨hjn, ?_⟩
    by_cases hji : j = i
    · subst hji; exact hy.qOp hi H
    · have := hdone _ _ H j (ready_mono hj hji)
      omega
  | succ f ih =>
    intro listed a inv hfree hr hy H
    have hun := (mem_ready.1 hr).1
    refine ⟨List.ne_nil_of_mem hr, fun j hj => ?_⟩
    have hjn : j < n := Nat.lt_of_not_le fun h => tail_waits hs hc hn inv _ i rfl hin hun j h hj
    refine ⟨hjn, ?_⟩
    by_cases hji : j = i
    · subst hji; exact hy.qOp hi H
    · obtain ⟨hjun, oj, hoj, hall⟩ := mem_ready.1 hj
      have hnot : ∀ e ∈ oj.after, Region.binds md e = true → e.on ≠ i := fun e he hb heq => by
        have h1 := hall e he hb
        rw [heq, getD_both hun] at h1
        cases h1
      have h2 := qOp_put hoj (hfree j oj hoj hji hjun hnot) (fun cs b => hsel i oi cs b hi) (fun cs b => hsel j oj cs b hoj) hy (H.2 j (ready_mono hj hji)).2
      have hfree' : ∀ k ok, ops[k]? = some ok → k ≠ i → (listed.setIfInBounds j true).getD k true = false →
          (∀ e ∈ ok.after, Region.binds md e = true → e.on ≠ i) → oi.apart ops ok = true := fun k ok hk hki hun' hno => by
        refine hfree k ok hk hki ?_ hno
        by_cases hjk : j = k
        · subst hjk; exact hjun
        · rwa [getD_set_ne true hjk] at hun'
      refine qOp_mono (fun a' h3 => ih (listed.setIfInBounds j true) a' (inv.set hj hjn) hfree' (ready_mono hr (Ne.symm hji)) h3.1 ?_) h2
      rw [Array.setIfInBounds_comm _ _ hji]
      exact h3.2

theorem head_lex {n g : Nat} {Lq : Act → Prop} (hsel : Region.noSelect ops = true) (hs : Region.sinkB md ops n = true) (hc : Region.chainB md ops n = true) (hn : n < ops.size) :
    ∀ (l : List Oper) (k : Nat) (listed : Array Bool) (a : Act), (∀ j, j < l.length → l[j]? = ops[k + j]?) → k + l.length = n → HeadInv md ops n listed →
    Region.lexHead md ops g l.length k listed = true → wpQuiet P ops C Lq l a →
    anyHead P md ops C n (fun listed' a' => Region.seqB md ops g n listed' = true ∧ Lq a') l.length listed a
  | [], k, listed, a, _, hk, _, hB, h => by
    obtain rfl : k = n := by simpa using hk
    exact ⟨by simpa [Region.lexHead] using hB, h⟩
  | o :: l, k, listed, a, hl, hk, inv, hB, h => by
    have h0 : ops[k]? = some o := by simpa using (hl 0 (by simp)).symm
    simp only [List.length_cons, Region.lexHead, Bool.and_eq_true] at hB
    obtain ⟨⟨hr, hf⟩, hB'⟩ := hB
    have hkn : k < n := by simp only [List.length_cons] at hk; omega
    have hr' : k ∈ Region.ready md ops listed := by simpa using hr
    have hst : qOp P ops C k (wpQuiet P ops C Lq l) a := by unfold qOp; simp only [h0]; exact h
    obtain ⟨v, hy, hK⟩ := yieldsIn_of_qOp h0 hst
    exact head_first h0 (Region.noSelect_spec hsel) hs hc hn hkn (fun listed' a' hL => seqB_ready hL.1) l.length listed a inv (Region.free_spec h0 hf) hr' hy
      (head_lex hsel hs hc hn l (k + 1) _ _ (fun j hj => by have := hl (j + 1) (by simp; omega); simpa [Nat.add_assoc, Nat.add_comm 1 j] using this)
        (by simp only [List.length_cons] at hk; omega) (inv.set hr' hkn) hB' hK)

/-- A region whose order is drawn: the first n operations are quiet in the class (in whatever order), the others follow in the text's order. -/
theorem wp_region_class_tail {id : Nat} {Q : Exit → Act → World → Prop} {a : Act} {w : World} {l : List Oper} (C : World → Prop) (n : Nat) (hm : P.follows .mixedOrders = true) (hB : Region.lexTailB .any l.toArray n = true)
    (hC : C { w with drawn := w.drawn + 1 })
    (h : wpQuiet P l.toArray C (fun a' => ∀ w', C w' → wpList P l.toArray Q (l.drop n) a' w') (l.take n) a) : (Code.region id l.toArray true).wp P Q a w := by
  simp only [Region.lexTailB, Bool.and_eq_true, decide_eq_true_eq] at hB
  obtain ⟨⟨⟨⟨hsel, hn⟩, hs⟩, hc⟩, hlex⟩ := hB
  have hn' : n < l.length := by simpa using hn
  have htl : (l.take n).length = n := by simp; omega
  have hdl : (l.drop n).length = l.toArray.size - n := by simp
  have inv0 : HeadInv .any l.toArray n (Array.replicate l.toArray.size false) :=
    ⟨by simp, fun j oj _ hl => (by rw [getD_replicate_false] at hl; cases hl), fun t _ ht => getD_in (by simpa using ht) (getD_replicate_false _ _)⟩
  have H := head_lex (md := .any) (g := l.toArray.size - n) hsel hs hc hn (l.take n) 0 _ a (fun j hj => by
    rw [htl] at hj
    simp [hj]) (by simpa using htl) inv0 (by rw [htl]; exact hlex) h
  refine wp_region_any hm ?_
  have := any_of_head (Q' := Q) (g := l.toArray.size - n) (fun listed a' w' hw' hL => by
    have := wpAny_of_seq (md := .any) (Q' := Q) (l.drop n) n listed a' w' (fun j => by simp [List.getElem?_drop]) (by rw [hdl]; exact hL.1) (hL.2 w' hw')
    rwa [hdl] at this) _ _ _ _ hC H
  rw [htl, show n + (l.toArray.size - n) = l.toArray.size by omega] at this
  exact this
/-- The same without a tail. -/
theorem wp_region_class {id : Nat} {Q : Exit → Act → World → Prop} {a : Act} {w : World} {l : List Oper} (C : World → Prop) (hm : P.follows .mixedOrders = true) (hB : Region.lexB .any l.toArray = true)
    (hC : C { w with drawn := w.drawn + 1 })
    (h : wpQuiet P l.toArray C (fun a' => ∀ w', C w' → Q .normal a' w') l a) : (Code.region id l.toArray true).wp P Q a w :=
  wp_region_quiet (C := C) hm hB hC (by simpa using h)
end
end Go.Bul
namespace Go.Bul
open Go
theorem count_set : ∀ (l : List Bool) (i : Nat), l.getD i true = false → (l.set i true).countP (fun b => !b) + 1 = l.countP (fun b => !b)
  | [], i, h => by simp at h
  | b :: l, 0, h => by
    simp at h
    subst h
    simp
  | b :: l, i + 1, h => by
    have := count_set l i (by simpa using h)
    cases b <;> simp only [List.set_cons_succ, List.countP_cons] at this ⊢ <;> simp at this ⊢ <;> omega
section
variable {P : Program} {ops : Array Oper} {md : Region.Mode} {Q : Exit → Act → World → Prop}
end
end Go.Bul
namespace Go.Bul
open Go
/-- How many operations are still to come. -/
def toCome (listed : Array Bool) : Nat := listed.toList.countP (fun b => !b)
theorem toCome_set {listed : Array Bool} {i : Nat} (h : listed.getD i true = false) : toCome (listed.setIfInBounds i true) + 1 = toCome listed := by
  have := count_set listed.toList i (by simpa [List.getD, Array.getD_eq_getD_getElem?] using h)
  simpa only [toCome, Array.toList_setIfInBounds] using this
section
variable {P : Program} {ops : Array Oper} {Q : Exit → Act → World → Prop}
/-- The rest of a region, whatever order comes up. -/
def wpAll (P : Program) (ops : Array Oper) (Q : Exit → Act → World → Prop) (listed : Array Bool) (a : Act) (w : World) : Prop := ∀ fuel, toCome listed ≤ fuel → wpAny P .any ops Q fuel listed a w
theorem wp_region_all {id : Nat} {a : Act} {w : World} {l : List Oper} (hm : P.follows .mixedOrders = true) (h : wpAll P l.toArray Q (Array.replicate l.toArray.size false) a w.drew) : (Code.region id l.toArray true).wp P Q a w :=
  wp_region_any hm (h _ (by simp [toCome, List.countP_replicate]))
theorem wpAll_done {listed : Array Bool} {a : Act} {w : World} (hr : Region.ready .any ops listed = []) (h : Q .normal a w) : wpAll P ops Q listed a w := fun fuel _ => wpAny_done hr h fuel
theorem toCome_pos {listed : Array Bool} {i : Nat} (hi : i ∈ Region.ready .any ops listed) : ∃ n, toCome listed = n + 1 := by
  have := toCome_set (mem_ready.1 hi).1
  exact ⟨_, this.symm⟩
/-- So many operations written out. -/
def pickOps (l : List Oper) (is : List Nat) : List Oper := is.filterMap fun i => l[i]?
def marks : List Nat → Array Bool → Array Bool
  | [], listed => listed
  | i :: is, listed => marks is (listed.setIfInBounds i true)
/-- Each comes up, and stands apart from all that does not wait for it. -/
def takeB (ops : Array Oper) : List Nat → Array Bool → Bool
  | [], _ => true
  | i :: is, listed => (Region.ready .any ops listed).contains i && Region.free .any ops listed i && takeB ops is (listed.setIfInBounds i true)
/-- Operations that yield in every world. -/
def wpPure (P : Program) (ops : Array Oper) (K : Act → Prop) : List Oper → Act → Prop
  | [], a => K a
  | o :: l, a => ∃ v, Yields P ops o v a ∧ wpPure P ops K l (a.put o.dst v)
theorem wpPure_nil {K : Act → Prop} {a : Act} (h : K a) : wpPure P ops K [] a := h
theorem wpPure_step {K : Act → Prop} {a : Act} {o : Oper} {l : List Oper} {v : Value} (hg : o.guard = none) (hy : ∀ w, (execOp a.eval o).run P w = .ok (.value v) w)
    (h : ∀ K' : Act → Prop, (∀ a', wpPure P ops K l a' → K' a') → K' (a.put o.dst v)) : wpPure P ops K (o :: l) a :=
  ⟨v, .inl ⟨by simp [Region.wanted, hg], hy⟩, h _ fun _ h => h⟩
theorem wpAll_takes {l : List Oper} (is : List Nat) (hsel : Region.noSelect l.toArray = true) (hQ : ∀ c a s v w, Q (.panic c) (Act.put a (some s) v) w → Q (.panic c) a w) {w : World} : ∀ {listed : Array Bool} {a : Act}, takeB l.toArray is listed = true →
    wpPure P l.toArray (fun a' => wpAll P l.toArray Q (marks is listed) a' w) (pickOps l is) a → wpAll P l.toArray Q listed a w := by
  induction is with
  | nil => intro listed a _ h; exact h
  | cons i is ih =>
    intro listed a hB h
    simp only [takeB, Bool.and_eq_true] at hB
    obtain ⟨⟨hr, hf⟩, hB⟩ := hB
    have hr' : i ∈ Region.ready .any l.toArray listed := by simpa using hr
    obtain ⟨_, o, ho, _⟩ := mem_ready.1 hr'
    have hp : pickOps l (i :: is) = o :: pickOps l is := by
      have : l[i]? = some o := by simpa using ho
      simp [pickOps, this]
    rw [hp] at h
    obtain ⟨v, hy, h⟩ := h
    intro fuel hfuel
    obtain ⟨n, hn⟩ := toCome_pos hr'
    obtain ⟨f, rfl⟩ : ∃ f, fuel = f + 1 := ⟨fuel - 1, by omega⟩
    refine wpAny_take ho hsel hf hr (fun c a w hq => by cases hd : o.dst with | none => rw [hd] at hq; exact hq | some s => rw [hd] at hq; exact hQ c a s _ w hq) hy (ih hB h f ?_)
    have := toCome_set (mem_ready.1 hr').1
    omega
/-- The only one that may come up. -/
def thenQ (Q : Exit → Act → World → Prop) (W : Act → World → Prop) : Exit → Act → World → Prop
  | .normal => W
  | x => Q x
theorem wp_of_then {o : Oper} {a : Act} {w : World} {K W : Act → World → Prop} (h : o.wp P a w K (thenQ Q W)) : o.wp P a w K Q := by
  unfold Oper.wp at *
  generalize (execOp a.eval o).run P w = r at *
  cases r with
  | ok n w' =>
    cases n with
    | enter f args => exact Calls.mono h fun e w'' he => by cases e <;> exact he
    | _ => exact h
  | halt x w' => cases x <;> exact h
theorem wpAll_one {l : List Oper} {listed : Array Bool} (k : Nat) {o : Oper} {a : Act} {w : World} (ho : l[k]? = some o) (hr : Region.ready .any l.toArray listed = [k])
    (h : wpList P l.toArray (thenQ Q (wpAll P l.toArray Q (listed.setIfInBounds k true))) [o] a w) : wpAll P l.toArray Q listed a w := by
  intro fuel hfuel
  have hk : k ∈ Region.ready .any l.toArray listed := by rw [hr]; simp
  obtain ⟨n, hn⟩ := toCome_pos hk
  obtain ⟨f, rfl⟩ : ∃ f, fuel = f + 1 := ⟨fuel - 1, by omega⟩
  refine wpAny_all hr (by simp) fun i hi => ?_
  obtain rfl : i = k := by simpa using hi
  have hK : ∀ a' w', thenQ Q (wpAll P l.toArray Q (listed.setIfInBounds i true)) .normal a' w' → wpAny P .any l.toArray Q f (listed.setIfInBounds i true) a' w' := fun a' w' h' => h' f (by
    have := toCome_set (mem_ready.1 hk).1
    omega)
  have ho' : l.toArray[i]? = some o := by simpa using ho
  unfold wpOp
  simp only [ho']
  unfold wpList at h
  split
  · rename_i hw
    rw [if_pos hw] at h
    rcases h with h | ⟨h1, h2⟩
    · exact .inl (Oper.wp_mono (fun a' w' h' => hK a' w' h') (wp_of_then h))
    · exact .inr ⟨h1, h2⟩
  · rename_i hw
    rw [if_neg hw] at h
    exact hK _ _ h
/-- All that is left comes up in one order. -/
def seqB (ops : Array Oper) : List Nat → Array Bool → Bool
  | [], listed => (Region.ready .any ops listed).isEmpty
  | i :: is, listed => decide (Region.ready .any ops listed = [i]) && seqB ops is (listed.setIfInBounds i true)
/-! ### A block of quiet operations that all else waits for -/
/-- t waits for i, perhaps through others. -/
inductive Behind (ops : Array Oper) (i : Nat) : Nat → Prop
  | one {t : Nat} (h : Region.waitsFor .any ops t i = true) : Behind ops i t
  | far {t j : Nat} (h : Region.waitsFor .any ops t j = true) (k : Behind ops i j) : Behind ops i t
def behindB (ops : Array Oper) (i : Nat) : Nat → Nat → Bool
  | 0, _ => false
  | f + 1, t => match ops[t]? with
    | none => false
    | some o => o.after.any fun e => Region.binds .any e && (e.on == i || behindB ops i f e.on)
theorem behind_of {i : Nat} : ∀ {f t : Nat}, behindB ops i f t = true → Behind ops i t
  | f + 1, t, h => by
    unfold behindB at h
    split at h
    · cases h
    · rename_i o ho
      obtain ⟨e, he, hb⟩ := Array.any_eq_true'.1 h
      simp only [Bool.and_eq_true, Bool.or_eq_true, beq_iff_eq] at hb
      have hw : Region.waitsFor .any ops t e.on = true := by
        unfold Region.waitsFor
        simp only [ho]
        exact Array.any_eq_true'.2 ⟨e, he, by simp [hb.1]⟩
      rcases hb.2 with h1 | h1
      · exact .one (h1 ▸ hw)
      · exact .far hw (behind_of h1)
def Closed (ops : Array Oper) (listed : Array Bool) : Prop := ∀ j oj, ops[j]? = some oj → listed.getD j false = true → ∀ e ∈ oj.after, Region.binds .any e = true → listed.getD e.on false = true
def closedB (ops : Array Oper) (listed : Array Bool) : Bool := (List.range ops.size).all fun j => !listed.getD j false || (match ops[j]? with | none => true | some o => o.after.all fun e => !Region.binds .any e || listed.getD e.on false)
theorem closed_of {listed : Array Bool} (h : closedB ops listed = true) : Closed ops listed := by
  intro j oj hj hl e he hb
  have h1 := List.all_eq_true.1 h j (List.mem_range.2 (Array.getElem?_eq_some_iff.1 hj).1)
  simp only [hl, Bool.not_true, Bool.false_or, hj] at h1
  have h2 := Array.all_eq_true'.1 h1 e he
  simpa [hb] using h2
theorem Closed.set {listed : Array Bool} {i : Nat} (inv : Closed ops listed) (hi : i ∈ Region.ready .any ops listed) : Closed ops (listed.setIfInBounds i true) := by
  obtain ⟨_, oi, hoi, hall⟩ := mem_ready.1 hi
  intro j oj hj hl e he hb
  by_cases hij : i = j
  · subst hij
    have : oj = oi := Option.some.inj (hj.symm.trans hoi)
    subst this
    exact getD_set_true (hall e he hb)
  · rw [getD_set_ne false hij] at hl
    exact getD_set_true (inv j oj hj hl e he hb)
theorem Behind.waits {listed : Array Bool} (inv : Closed ops listed) {i : Nat} (hi : listed.getD i true = false) : ∀ {t : Nat}, Behind ops i t → t ∉ Region.ready .any ops listed ∧ listed.getD t false = false := by
  intro t h
  have key : ∀ {t j : Nat}, Region.waitsFor .any ops t j = true → listed.getD j false = false → t ∉ Region.ready .any ops listed ∧ listed.getD t false = false := by
    intro t j hw hj
    obtain ⟨o, ho, e, he, hb, rfl⟩ := Region.waitsFor_spec hw
    refine ⟨fun hr => ?_, ?_⟩
    · obtain ⟨_, o', ho', hall⟩ := mem_ready.1 hr
      have : o' = o := Option.some.inj (ho'.symm.trans ho)
      subst this
      have := hall e he hb
      rw [hj] at this; cases this
    · cases hl : listed.getD t false with
      | false => rfl
      | true =>
        have := inv t o ho hl e he hb
        rw [hj] at this; cases this
  induction h with
  | one h => exact key h (getD_both hi)
  | far h _ ih => exact key h ih.2
structure BlkInv (ops : Array Oper) (H : List Nat) (listed : Array Bool) : Prop where
  closed : Closed ops listed
  out : ∀ t, t < ops.size → t ∉ H → listed.getD t false = false → ∀ i ∈ H, Behind ops i t
theorem BlkInv.ready {H : List Nat} {listed : Array Bool} (inv : BlkInv ops H listed) {i : Nat} (hiH : i ∈ H) (hi : listed.getD i true = false) : ∀ t ∈ Region.ready .any ops listed, t ∈ H := by
  intro t ht
  refine Classical.byContradiction fun hn => ?_
  obtain ⟨hun, o, ho, _⟩ := mem_ready.1 ht
  exact (Behind.waits inv.closed hi (inv.out t (Array.getElem?_eq_some_iff.1 ho).1 hn (getD_both hun) i hiH)).1 ht
theorem BlkInv.set {H : List Nat} {listed : Array Bool} (inv : BlkInv ops H listed) {i : Nat} (hiH : i ∈ H) (hi : i ∈ Region.ready .any ops listed) : BlkInv ops H (listed.setIfInBounds i true) := by
  refine ⟨inv.closed.set hi, fun t ht hn hun => inv.out t ht hn ?_⟩
  rwa [getD_set_ne false (by rintro rfl; exact hn hiH)] at hun
end
end Go.Bul
