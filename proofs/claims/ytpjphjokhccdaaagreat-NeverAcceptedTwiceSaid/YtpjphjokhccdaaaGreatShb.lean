/- Plain arithmetic: SHA-256 piece by piece: the state after the complete blocks of what has been written; bounds. No condition. -/
import Derived.Test.YtpjphjokhccdaaaGreatSha
namespace Go.Bul
theorem runs_append : ∀ (n : Nat) (h : St) (l r : List Nat), 64 * n ≤ l.length → runs n h (l ++ r) = runs n h l := by
  intro n
  induction n with
  | zero => intro h l r _; rfl
  | succ n ih =>
    intro h l r hl
    rw [runs, runs, List.take_append_of_le_length (by omega), List.drop_append_of_le_length (by omega)]
    exact ih _ _ _ (by rw [List.length_drop]; omega)
theorem runs_succ : ∀ (n : Nat) (h : St) (l : List Nat), runs (n + 1) h l = compress (runs n h l) (word ((l.drop (64 * n)).take 64)) := by
  intro n
  induction n with
  | zero => intro h l; simp [runs]
  | succ n ih =>
    intro h l
    rw [runs, ih, runs, List.drop_drop]
    rw [show 64 + 64 * n = 64 * (n + 1) by omega]
/-- The state after the complete blocks. -/
def after (l : List Nat) : St := runs (l.length / 64) ini l
theorem after_nil : after [] = ini := rfl
/-- The bytes behind the complete blocks. -/
def rest (l : List Nat) : List Nat := l.drop (64 * (l.length / 64))
theorem rest_length (l : List Nat) : (rest l).length = l.length % 64 := by rw [rest, List.length_drop]; omega
theorem after_part {l b : List Nat} (h : l.length % 64 + b.length < 64) : after (l ++ b) = after l ∧ rest (l ++ b) = rest l ++ b := by
  have e : (l.length + b.length) / 64 = l.length / 64 := by omega
  refine ⟨?_, ?_⟩
  · rw [after, after, List.length_append, e, runs_append _ _ _ _ (by omega)]
  · rw [rest, rest, List.length_append, e, List.drop_append_of_le_length (by omega)]
theorem after_full {l b : List Nat} (h : l.length % 64 + b.length = 64) : after (l ++ b) = compress (after l) (word (rest l ++ b)) ∧ rest (l ++ b) = [] := by
  have e : (l.length + b.length) / 64 = l.length / 64 + 1 := by omega
  refine ⟨?_, ?_⟩
  · rw [after, List.length_append, e, runs_succ, runs_append _ _ _ _ (by omega), List.drop_append_of_le_length (by omega), ← after, ← rest]
    rw [List.take_of_length_le (by rw [List.length_append, rest_length]; omega)]
  · rw [rest, List.length_append, e]
    exact List.drop_eq_nil_of_le (by rw [List.length_append]; omega)
theorem padding_length (n : Nat) : (padding n).length = 9 + (119 - n % 64) % 64 := by
  simp [padding, be64]; omega
theorem sha_after (l : List Nat) : sha l = (after (padded l)).out := rfl

theorem add32_lt (a b : Nat) : add32 a b < 4294967296 := by unfold add32; omega
theorem plus_ok (x y : St) : (plus x y).Ok := ⟨add32_lt _ _, add32_lt _ _, add32_lt _ _, add32_lt _ _, add32_lt _ _, add32_lt _ _, add32_lt _ _, add32_lt _ _⟩
theorem rnd_ok {v : St} (h : v.Ok) (k w : Nat) : (rnd v k w).Ok := ⟨add32_lt _ _, h.a, h.b, h.c, add32_lt _ _, h.e, h.f, h.g⟩
theorem ini_ok : ini.Ok := ⟨by decide, by decide, by decide, by decide, by decide, by decide, by decide, by decide⟩
theorem compress_ok (h : St) (m : Nat → Nat) : (compress h m).Ok := plus_ok _ _
theorem runs_ok : ∀ (n : Nat) {h : St} (_ : h.Ok) (l : List Nat), (runs n h l).Ok := by
  intro n
  induction n with
  | zero => intro h hh l; exact hh
  | succ n ih => intro h hh l; exact ih (compress_ok _ _) _
theorem after_ok (l : List Nat) : (after l).Ok := runs_ok _ ini_ok _
theorem stAt_ok {m : Nat → Nat} {h : St} (hh : h.Ok) : ∀ t, (stAt m h t).Ok
  | 0 => hh
  | t + 1 => rnd_ok (stAt_ok hh t) _ _
theorem W_lt {m : Nat → Nat} (hm : ∀ t, t < 16 → m t < 4294967296) (t : Nat) : W m t < 4294967296 := by
  rw [W]
  split
  · exact hm t ‹_›
  · exact add32_lt _ _
theorem K_lt : ∀ t, K t < 4294967296 := by
  intro t
  by_cases h : t < 64
  · have : ∀ i : Fin 64, K i.1 < 4294967296 := by decide +kernel
    exact this ⟨t, h⟩
  · have : K t = 0 := by
      have hl : ks.length = 64 := rfl
      rw [K, List.getD_eq_getElem?_getD, List.getElem?_eq_none (by omega)]
      rfl
    omega

/-- Every element is a byte. -/
def Bytes (l : List Nat) : Prop := ∀ x ∈ l, x < 256
theorem Bytes.nil : Bytes [] := fun _ h => by cases h
theorem Bytes.append {l r : List Nat} (h : Bytes l) (k : Bytes r) : Bytes (l ++ r) := fun x hx => by
  rcases List.mem_append.1 hx with hx | hx
  · exact h x hx
  · exact k x hx
theorem Bytes.left {l r : List Nat} (h : Bytes (l ++ r)) : Bytes l := fun x hx => h x (List.mem_append.2 (.inl hx))
theorem Bytes.right {l r : List Nat} (h : Bytes (l ++ r)) : Bytes r := fun x hx => h x (List.mem_append.2 (.inr hx))
theorem Bytes.take {l : List Nat} (h : Bytes l) (n : Nat) : Bytes (l.take n) := fun x hx => h x (List.mem_of_mem_take hx)
theorem Bytes.drop {l : List Nat} (h : Bytes l) (n : Nat) : Bytes (l.drop n) := fun x hx => h x (List.mem_of_mem_drop hx)
theorem Bytes.cons {l : List Nat} {x : Nat} (hx : x < 256) (h : Bytes l) : Bytes (x :: l) := fun y hy => by
  rcases List.mem_cons.1 hy with rfl | hy
  · exact hx
  · exact h y hy
theorem Bytes.getD {l : List Nat} (h : Bytes l) (i : Nat) : l.getD i 0 < 256 := by
  rw [List.getD]
  cases e : l[i]? with
  | none => simp
  | some x => exact h x (List.mem_of_getElem? e)
theorem Bytes.get {l : List Nat} (h : Bytes l) {i x : Nat} (e : l[i]? = some x) : x < 256 := h x (List.mem_of_getElem? e)
theorem bytes_rep (n : Nat) : Bytes (List.replicate n 0) := fun x hx => by rw [List.eq_of_mem_replicate hx]; omega
theorem bytes_be64 (n : Nat) : Bytes (be64 n) := by
  intro x hx
  simp only [be64, List.mem_cons, List.not_mem_nil, or_false] at hx
  omega
theorem bytes_padding (n : Nat) : Bytes (padding n) := Bytes.cons (by omega) ((bytes_rep _).append (bytes_be64 _))
theorem bytes_bytes4 (x : Nat) : Bytes (bytes4 x) := by
  intro y hy
  simp only [bytes4, List.mem_cons, List.not_mem_nil, or_false] at hy
  omega
theorem St.out_eq (v : St) : v.out = bytes4 v.a ++ (bytes4 v.b ++ (bytes4 v.c ++ (bytes4 v.d ++ (bytes4 v.e ++ (bytes4 v.f ++ (bytes4 v.g ++ bytes4 v.h)))))) := by
  simp [St.out, St.list]
theorem out_length (v : St) : v.out.length = 32 := by rw [St.out_eq]; rfl
theorem bytes_out (v : St) : Bytes v.out := by
  rw [St.out_eq]
  exact (bytes_bytes4 _).append ((bytes_bytes4 _).append ((bytes_bytes4 _).append ((bytes_bytes4 _).append ((bytes_bytes4 _).append ((bytes_bytes4 _).append ((bytes_bytes4 _).append (bytes_bytes4 _)))))))
theorem sha_length (l : List Nat) : (sha l).length = 32 := out_length _
theorem bytes_sha (l : List Nat) : Bytes (sha l) := bytes_out _
theorem word_lt {b : List Nat} (h : Bytes b) (i : Nat) : word b i < 4294967296 := by
  have h0 := h.getD (4 * i)
  have h1 := h.getD (4 * i + 1)
  have h2 := h.getD (4 * i + 2)
  have h3 := h.getD (4 * i + 3)
  unfold word
  omega
/-- The first half of a digest. -/
def half (l : List Nat) : List Nat := (sha l).take 16
theorem half_length (l : List Nat) : (half l).length = 16 := by rw [half, List.length_take, sha_length]; rfl
theorem bytes_half (l : List Nat) : Bytes (half l) := (bytes_sha l).take _
end Go.Bul
