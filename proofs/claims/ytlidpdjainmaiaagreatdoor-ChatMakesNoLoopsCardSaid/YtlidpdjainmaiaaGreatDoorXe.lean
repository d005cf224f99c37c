/- Plain: UTF-8, as a gateway wants it: codes, printable texts. No program. Plain: a code point's bytes again; trimming. No program. Plain: lines of a chat: numbers in decimal, how a line is printed, how a body is cut. No program. -/
import Derived.Test.YtlidpdjainmaiaaGreatDoorXa
import Derived.Lib.RuneBytes
import Derived.Lib.ItoaNum
namespace Go.Cht
open Go Go.Bul
/-- How many bytes the encodings have that begin with a byte. -/
def lenB (b : Nat) : Nat := if b ≤ 127 then 1 else if 194 ≤ b ∧ b ≤ 223 then 2 else if 224 ≤ b ∧ b ≤ 239 then 3 else if 240 ≤ b ∧ b ≤ 244 then 4 else 0
def lowB (f i : Nat) : Nat := if i = 1 then (if f = 224 then 160 else if f = 240 then 144 else 128) else 128
def highB (f i : Nat) : Nat := if i = 1 then (if f = 237 then 159 else if f = 244 then 143 else 191) else 191
def contB (f i c : Nat) : Bool := decide (lowB f i ≤ c) && decide (c ≤ highB f i)
theorem lenB_le (b : Nat) : lenB b ≤ 4 := by
  unfold lenB
  (repeat' split) <;> omega
theorem contB_range {f i c : Nat} (h : contB f i c = true) : 128 ≤ c ∧ c ≤ 191 := by
  simp only [contB, Bool.and_eq_true, decide_eq_true_eq] at h
  unfold lowB highB at h
  constructor
  · have h1 := h.1
    repeat' split at h1
    all_goals omega
  · have h1 := h.2
    repeat' split at h1
    all_goals omega
/-- How far the bytes go on from n, k at most. -/
def mrun (l : List Nat) (f : Nat) : Nat → Nat → Nat
  | 0, n => n
  | k + 1, n => if n < l.length ∧ contB f n (l.getD n 0) = true then mrun l f k (n + 1) else n
theorem mrun_le (l : List Nat) (f : Nat) : ∀ k n, n ≤ mrun l f k n ∧ mrun l f k n ≤ n + k
  | 0, n => by simp [mrun]
  | k + 1, n => by
    unfold mrun
    split
    · have := mrun_le l f k (n + 1); omega
    · omega
theorem mrun_len (l : List Nat) (f : Nat) : ∀ k n, n ≤ l.length → mrun l f k n ≤ l.length
  | 0, n, h => by simpa [mrun] using h
  | k + 1, n, h => by
    unfold mrun
    split
    · rename_i h1; exact mrun_len l f k (n + 1) (by omega)
    · exact h
theorem mrun_cont (l : List Nat) (f : Nat) : ∀ k n i, n ≤ i → i < mrun l f k n → contB f i (l.getD i 0) = true
  | 0, n, i, h1, h2 => by simp [mrun] at h2; omega
  | k + 1, n, i, h1, h2 => by
    unfold mrun at h2
    split at h2
    · rename_i h3
      by_cases h4 : i = n
      · subst h4; exact h3.2
      · exact mrun_cont l f k (n + 1) i (by omega) h2
    · omega
theorem mrun_all (l : List Nat) (f : Nat) : ∀ k n, n + k ≤ l.length → (∀ i, n ≤ i → i < n + k → contB f i (l.getD i 0) = true) → mrun l f k n = n + k
  | 0, n, _, _ => by simp [mrun]
  | k + 1, n, h1, h2 => by
    unfold mrun
    rw [if_pos ⟨by omega, h2 n (Nat.le_refl _) (by omega)⟩, mrun_all l f k (n + 1) (by omega) (fun i h3 h4 => h2 i (by omega) (by omega))]
    omega
/-- What 'measure' returns. -/
def meas (l : List Nat) : Nat × Bool := match l with
  | [] => (0, false)
  | b :: t => if lenB b = 0 then (0, false) else (mrun (b :: t) b (lenB b - 1) 1, mrun (b :: t) b (lenB b - 1) 1 == lenB b)
theorem meas_cons (b : Nat) (t : List Nat) : meas (b :: t) = if lenB b = 0 then (0, false) else (mrun (b :: t) b (lenB b - 1) 1, mrun (b :: t) b (lenB b - 1) 1 == lenB b) := rfl
/-- The bytes of one code point. -/
structure Cd (c : List Nat) : Prop where
  pos : c ≠ []
  len : lenB (c.getD 0 0) = c.length
  cont : ∀ i, 1 ≤ i → i < c.length → contB (c.getD 0 0) i (c.getD i 0) = true
theorem Cd.size {c : List Nat} (h : Cd c) : 1 ≤ c.length ∧ c.length ≤ 4 := by
  have h1 := h.pos
  have h2 := h.len
  have h3 := lenB_le (c.getD 0 0)
  have : c.length ≠ 0 := fun h => h1 (List.length_eq_zero_iff.1 h)
  omega
theorem meas_code {c : List Nat} (h : Cd c) (r : List Nat) : meas (c ++ r) = (c.length, true) := by
  obtain ⟨h1, h4⟩ := h.size
  cases c with
  | nil => exact absurd rfl h.pos
  | cons b t =>
    have hl := h.len
    simp only [List.getD_cons_zero] at hl
    have hm : mrun (b :: (t ++ r)) b (lenB b - 1) 1 = lenB b := by
      rw [mrun_all _ _ _ _ (by rw [hl]; simp only [List.length_cons, List.length_append] at *; omega)]
      · omega
      · intro i h2 h3
        have h5 : i < (b :: t).length := by omega
        have h6 := h.cont i h2 h5
        rw [show (b :: (t ++ r)).getD i 0 = (b :: t).getD i 0 by
          rw [← List.cons_append, List.getD_eq_getElem?_getD, List.getD_eq_getElem?_getD, List.getElem?_append_left h5]]
        exact h6
    rw [List.cons_append, meas_cons, if_neg (by rw [hl]; omega), hm, hl]
    simp
theorem meas_whole {l : List Nat} {n : Nat} (h : meas l = (n, true)) : n ≤ l.length ∧ 1 ≤ n ∧ Cd (l.take n) := by
  cases l with
  | nil => simp [meas] at h
  | cons b t =>
    rw [meas_cons] at h
    split at h
    · simp at h
    · rename_i h0
      injection h with h1 h2
      have h3 : n = lenB b := by rw [← h1]; simpa using h2
      have h4 := mrun_len (b :: t) b (lenB b - 1) 1 (by simp)
      have h5 := mrun_cont (b :: t) b (lenB b - 1) 1
      rw [h1] at h4 h5
      have hn : (List.take n (b :: t)).length = n := by rw [List.length_take]; omega
      have hg : ∀ i, i < n → (List.take n (b :: t)).getD i 0 = (b :: t).getD i 0 := fun i hi => by
        rw [List.getD_eq_getElem?_getD, List.getD_eq_getElem?_getD, List.getElem?_take, if_pos hi]
      have hn1 : 1 ≤ n := by omega
      refine ⟨h4, hn1, ⟨fun h6 => ?_, ?_, fun i h6 h7 => ?_⟩⟩
      · rw [h6] at hn; simp at hn; omega
      · rw [hg 0 (by omega), hn]; exact h3.symm
      · rw [hn] at h7
        rw [hg 0 (by omega), hg i h7]
        exact h5 i h6 h7
theorem meas_len (l : List Nat) : (meas l).1 ≤ l.length := by
  cases l with
  | nil => simp [meas]
  | cons b t =>
    rw [meas_cons]
    split
    · simp
    · exact mrun_len _ _ _ _ (by simp)
/-- The code point of an encoding. -/
def valB (c : List Nat) : Nat := match c with
  | [] => 0
  | b :: t => t.foldl (fun r x => r * 64 + x % 64) (if t = [] then b else b % (128 / 2 ^ (t.length + 1)))
/-- A control character. -/
def ctlB (r : Nat) : Bool := decide (r ≤ 31) || (decide (127 ≤ r) && decide (r ≤ 159)) || decide (r = 8232) || decide (r = 8233)
/-- Whether a text is valid; whether it is printable. -/
def vldF : Nat → List Nat → Bool
  | 0, l => l.isEmpty
  | k + 1, l => l.isEmpty || ((meas l).2 && vldF k (l.drop (meas l).1))
def prtF : Nat → List Nat → Bool
  | 0, l => l.isEmpty
  | k + 1, l => l.isEmpty || ((meas l).2 && (!ctlB (valB (l.take (meas l).1)) && prtF k (l.drop (meas l).1)))
def prtB (l : List Nat) : Bool := prtF l.length l
/-- A printable text, code by code. -/
inductive Vl : List (List Nat) → Prop
  | nil : Vl []
  | cons (c : List Nat) (cs : List (List Nat)) : Cd c → Vl cs → Vl (c :: cs)
def Pr (l : List Nat) : Prop := ∃ cs, Vl cs ∧ l = cs.flatten ∧ ∀ c ∈ cs, ctlB (valB c) = false
theorem Vl.mem {cs : List (List Nat)} (h : Vl cs) : ∀ c ∈ cs, Cd c := by
  induction h with
  | nil => intro c hc; cases hc
  | cons c cs h1 _ ih =>
    intro d hd
    rcases List.mem_cons.1 hd with rfl | hd
    · exact h1
    · exact ih d hd
theorem Vl.of {cs : List (List Nat)} (h : ∀ c ∈ cs, Cd c) : Vl cs := by
  induction cs with
  | nil => exact .nil
  | cons c cs ih => exact .cons c cs (h c (.head _)) (ih fun d hd => h d (.tail _ hd))
theorem vldF_of {cs : List (List Nat)} (h : Vl cs) : ∀ k, cs.flatten.length ≤ k → vldF k cs.flatten = true := by
  induction h with
  | nil => intro k _; cases k <;> rfl
  | cons c cs h1 _ ih =>
    intro k hk
    obtain ⟨h2, _⟩ := h1.size
    rw [List.flatten_cons, List.length_append] at hk
    cases k with
    | zero => omega
    | succ k =>
      rw [List.flatten_cons]
      unfold vldF
      rw [meas_code h1, List.drop_left, ih k (by omega)]
      simp
theorem vldF_yes : ∀ (k : Nat) (l : List Nat), vldF k l = true → ∃ cs, Vl cs ∧ l = cs.flatten
  | 0, l, h => ⟨[], .nil, by simpa [vldF] using h⟩
  | k + 1, l, h => by
    unfold vldF at h
    rw [Bool.or_eq_true] at h
    rcases h with h | h
    · exact ⟨[], .nil, by simpa using h⟩
    · rw [Bool.and_eq_true] at h
      obtain ⟨n, hn⟩ : ∃ n, (meas l).1 = n := ⟨_, rfl⟩
      have hm : meas l = (n, true) := by rw [← hn, ← h.1]
      obtain ⟨h1, h2, h3⟩ := meas_whole hm
      rw [hn] at h
      obtain ⟨cs, h4, h5⟩ := vldF_yes k _ h.2
      exact ⟨l.take n :: cs, .cons _ _ h3 h4, by rw [List.flatten_cons, ← h5, List.take_append_drop]⟩
theorem prtF_of {cs : List (List Nat)} (h : Vl cs) (hc : ∀ c ∈ cs, ctlB (valB c) = false) : ∀ k, cs.flatten.length ≤ k → prtF k cs.flatten = true := by
  induction h with
  | nil => intro k _; cases k <;> rfl
  | cons c cs h1 _ ih =>
    intro k hk
    obtain ⟨h2, _⟩ := h1.size
    rw [List.flatten_cons, List.length_append] at hk
    cases k with
    | zero => omega
    | succ k =>
      rw [List.flatten_cons]
      unfold prtF
      rw [meas_code h1, List.drop_left, List.take_left, ih (fun d hd => hc d (.tail _ hd)) k (by omega), hc c (.head _)]
      simp
theorem prtF_yes : ∀ (k : Nat) (l : List Nat), prtF k l = true → Pr l
  | 0, l, h => ⟨[], .nil, by simpa [prtF] using h, fun c hc => by cases hc⟩
  | k + 1, l, h => by
    unfold prtF at h
    rw [Bool.or_eq_true] at h
    rcases h with h | h
    · exact ⟨[], .nil, by simpa using h, fun c hc => by cases hc⟩
    · rw [Bool.and_eq_true, Bool.and_eq_true] at h
      obtain ⟨n, hn⟩ : ∃ n, (meas l).1 = n := ⟨_, rfl⟩
      have hm : meas l = (n, true) := by rw [← hn, ← h.1]
      obtain ⟨h1, h2, h3⟩ := meas_whole hm
      rw [hn] at h
      obtain ⟨cs, h4, h5, h6⟩ := prtF_yes k _ h.2.2
      refine ⟨l.take n :: cs, .cons _ _ h3 h4, by rw [List.flatten_cons, ← h5, List.take_append_drop], fun c hc => ?_⟩
      rcases List.mem_cons.1 hc with rfl | hc
      · simpa using h.2.1
      · exact h6 c hc
theorem prtB_iff (l : List Nat) : prtB l = true ↔ Pr l :=
  ⟨prtF_yes _ l, fun ⟨cs, h1, h2, h3⟩ => by subst h2; exact prtF_of h1 h3 _ (Nat.le_refl _)⟩
/-- Printable, part by part. -/
theorem Pr.nil : Pr [] := ⟨[], .nil, rfl, fun c hc => by cases hc⟩
theorem Pr.app {l m : List Nat} (h1 : Pr l) (h2 : Pr m) : Pr (l ++ m) := by
  obtain ⟨a, a1, rfl, a3⟩ := h1
  obtain ⟨b, b1, rfl, b3⟩ := h2
  refine ⟨a ++ b, Vl.of fun c hc => ?_, by rw [List.flatten_append], fun c hc => ?_⟩
  · rcases List.mem_append.1 hc with hc | hc
    · exact a1.mem c hc
    · exact b1.mem c hc
  · rcases List.mem_append.1 hc with hc | hc
    · exact a3 c hc
    · exact b3 c hc
theorem cd_ascii {b : Nat} (h : b ≤ 127) : Cd [b] := ⟨by simp, by simp [lenB, h], fun i h1 h2 => by simp at h2; omega⟩
theorem Pr.one {b : Nat} (h1 : 32 ≤ b) (h2 : b ≤ 126) : Pr [b] :=
  ⟨[[b]], .cons _ _ (cd_ascii (by omega)) .nil, rfl, fun c hc => by
    obtain rfl := List.mem_singleton.1 hc
    have e : valB [b] = b := by simp [valB]
    rw [e]
    simp [ctlB]
    omega⟩
theorem Pr.ascii : ∀ (l : List Nat), (∀ b ∈ l, 32 ≤ b ∧ b ≤ 126) → Pr l
  | [], _ => Pr.nil
  | b :: l, h => (Pr.one (h b (.head _)).1 (h b (.head _)).2).app (Pr.ascii l fun x hx => h x (.tail _ hx))
theorem Cd.bytes {c : List Nat} (h : Cd c) (hc : ctlB (valB c) = false) : ∀ b ∈ c, 32 ≤ b ∧ b ≠ 127 ∧ b < 256 := by
  intro b hb
  obtain ⟨i, hi, rfl⟩ := List.mem_iff_getElem.1 hb
  cases c with
  | nil => cases hb
  | cons f t =>
    cases i with
    | zero =>
      have h1 := h.len
      simp only [List.getD_cons_zero] at h1
      show 32 ≤ f ∧ f ≠ 127 ∧ f < 256
      cases t with
      | nil =>
        have e : valB [f] = f := by simp [valB]
        rw [e] at hc
        simp [ctlB] at hc
        have h2 : lenB f = 1 := by simpa using h1
        unfold lenB at h2
        split at h2
        · omega
        · split at h2
          · omega
          · split at h2
            · omega
            · split at h2 <;> omega
      | cons g t =>
        have h2 : 2 ≤ lenB f := by rw [h1]; simp
        unfold lenB at h2
        split at h2
        · omega
        · split at h2
          · omega
          · split at h2
            · omega
            · split at h2 <;> omega
    | succ i =>
      have h1 := h.cont (i + 1) (by omega) hi
      have h2 := contB_range h1
      rw [List.getD_eq_getElem?_getD, List.getElem?_eq_getElem hi] at h2
      simp only [Option.getD_some] at h2
      omega
theorem Pr.bytes {l : List Nat} (h : Pr l) : ∀ b ∈ l, 32 ≤ b ∧ b ≠ 127 ∧ b < 256 := by
  obtain ⟨cs, h1, rfl, h3⟩ := h
  intro b hb
  obtain ⟨c, hc, hb⟩ := List.mem_flatten.1 hb
  exact (h1.mem c hc).bytes (h3 c hc) b hb
/-- Spaces at the end may go. -/
theorem Pr.unspace {l : List Nat} (h : Pr (l ++ [32])) : Pr l := by
  obtain ⟨cs, h1, h2, h3⟩ := h
  rcases List.eq_nil_or_concat cs with rfl | ⟨ds, c, rfl⟩
  · simp at h2
  · rw [List.concat_eq_append, List.flatten_append, List.flatten_cons, List.flatten_nil, List.append_nil] at h2
    have hc := h1.mem c (by simp)
    obtain ⟨n1, n4⟩ := hc.size
    have hlast : c.getLast? = some 32 := by
      have h4 := congrArg List.getLast? h2
      rw [List.getLast?_append, List.getLast?_append] at h4
      have h5 : c.getLast? ≠ none := by
        intro h6
        have := List.getLast?_eq_none_iff.1 h6
        rw [this] at n1
        simp at n1
      cases h6 : c.getLast? with
      | none => exact absurd h6 h5
      | some x => rw [h6] at h4; simpa using h4.symm
    have hl1 : c.length = 1 := by
      rcases Nat.lt_or_ge 1 c.length with h4 | h4
      · have h5 := contB_range (hc.cont (c.length - 1) (by omega) (by omega))
        rw [List.getLast?_eq_getElem?] at hlast
        rw [List.getD_eq_getElem?_getD, hlast] at h5
        simp at h5
      · omega
    obtain ⟨x, rfl⟩ := List.length_eq_one_iff.1 hl1
    have hx : x = 32 := by simpa using hlast
    subst hx
    have h4 := List.append_cancel_right h2
    exact ⟨ds, Vl.of fun d hd => h1.mem d (by simp [hd]), h4, fun d hd => h3 d (by simp [hd])⟩
end Go.Cht
namespace Go.Cht
open Go Go.Bul
theorem list1 {c : List Nat} (h : c.length = 1) : ∃ a, c = [a] := by
  match c, h with
  | [a], _ => exact ⟨a, rfl⟩
theorem list2 {c : List Nat} (h : c.length = 2) : ∃ a b, c = [a, b] := by
  match c, h with
  | [a, b], _ => exact ⟨a, b, rfl⟩
theorem list3 {c : List Nat} (h : c.length = 3) : ∃ a b d, c = [a, b, d] := by
  match c, h with
  | [a, b, d], _ => exact ⟨a, b, d, rfl⟩
theorem list4 {c : List Nat} (h : c.length = 4) : ∃ a b d e, c = [a, b, d, e] := by
  match c, h with
  | [a, b, d, e], _ => exact ⟨a, b, d, e, rfl⟩
theorem lenB_1 {b : Nat} (h : lenB b = 1) : b ≤ 127 := by
  unfold lenB at h
  repeat' split at h
  all_goals omega
theorem lenB_2 {b : Nat} (h : lenB b = 2) : 194 ≤ b ∧ b ≤ 223 := by
  unfold lenB at h
  repeat' split at h
  all_goals omega
theorem lenB_3 {b : Nat} (h : lenB b = 3) : 224 ≤ b ∧ b ≤ 239 := by
  unfold lenB at h
  repeat' split at h
  all_goals omega
theorem lenB_4 {b : Nat} (h : lenB b = 4) : 240 ≤ b ∧ b ≤ 244 := by
  unfold lenB at h
  repeat' split at h
  all_goals omega
theorem contB_1 {f c : Nat} (h : contB f 1 c = true) : (f = 224 → 160 ≤ c) ∧ (f = 240 → 144 ≤ c) ∧ (f = 237 → c ≤ 159) ∧ (f = 244 → c ≤ 143) := by
  simp only [contB, Bool.and_eq_true, decide_eq_true_eq, lowB, highB, if_true] at h
  obtain ⟨h1, h2⟩ := h
  refine ⟨fun e => ?_, fun e => ?_, fun e => ?_, fun e => ?_⟩
  · subst e; simpa using h1
  · subst e; simpa using h1
  · subst e; simpa using h2
  · subst e; simpa using h2
/-- A code point's value, by the number of its bytes. -/
theorem Cd.form {c : List Nat} (h : Cd c) : (∃ a, c = [a] ∧ a ≤ 127 ∧ valB c = a) ∨ (∃ a b, c = [a, b] ∧ (194 ≤ a ∧ a ≤ 223) ∧ (128 ≤ b ∧ b ≤ 191) ∧ valB c = (a % 32) * 64 + b % 64) ∨
    (∃ a b d, c = [a, b, d] ∧ (224 ≤ a ∧ a ≤ 239) ∧ (128 ≤ b ∧ b ≤ 191) ∧ (128 ≤ d ∧ d ≤ 191) ∧ (a = 224 → 160 ≤ b) ∧ (a = 237 → b ≤ 159) ∧ valB c = ((a % 16) * 64 + b % 64) * 64 + d % 64) ∨
    (∃ a b d e, c = [a, b, d, e] ∧ (240 ≤ a ∧ a ≤ 244) ∧ (128 ≤ b ∧ b ≤ 191) ∧ (128 ≤ d ∧ d ≤ 191) ∧ (128 ≤ e ∧ e ≤ 191) ∧ (a = 240 → 144 ≤ b) ∧ (a = 244 → b ≤ 143) ∧ valB c = (((a % 8) * 64 + b % 64) * 64 + d % 64) * 64 + e % 64) := by
  obtain ⟨n1, n4⟩ := h.size
  have hl := h.len
  have hc := h.cont
  rcases (show c.length = 1 ∨ c.length = 2 ∨ c.length = 3 ∨ c.length = 4 by omega) with e | e | e | e
  · obtain ⟨a, rfl⟩ := list1 e
    exact .inl ⟨a, rfl, lenB_1 hl, rfl⟩
  · obtain ⟨a, b, rfl⟩ := list2 e
    exact .inr (.inl ⟨a, b, rfl, lenB_2 hl, contB_range (hc 1 (by omega) (by rw [e]; omega)), by simp [valB]⟩)
  · obtain ⟨a, b, d, rfl⟩ := list3 e
    have h1 := contB_1 (hc 1 (by omega) (by rw [e]; omega))
    exact .inr (.inr (.inl ⟨a, b, d, rfl, lenB_3 hl, contB_range (hc 1 (by omega) (by rw [e]; omega)), contB_range (hc 2 (by omega) (by rw [e]; omega)), h1.1, h1.2.2.1, by simp [valB]⟩))
  · obtain ⟨a, b, d, f, rfl⟩ := list4 e
    have h1 := contB_1 (hc 1 (by omega) (by rw [e]; omega))
    exact .inr (.inr (.inr ⟨a, b, d, f, rfl, lenB_4 hl, contB_range (hc 1 (by omega) (by rw [e]; omega)), contB_range (hc 2 (by omega) (by rw [e]; omega)), contB_range (hc 3 (by omega) (by rw [e]; omega)), h1.2.1, h1.2.2.2, by simp [valB]⟩))
/-- Its bytes again. -/
theorem enc_val {c : List Nat} (h : Cd c) : Lib.encodeRuneZ (valB c : Nat) = c.map fun x : Nat => (x : Int) := by
  rcases h.form with ⟨a, rfl, h1, hv⟩ | ⟨a, b, rfl, h1, h2, hv⟩ | ⟨a, b, d, rfl, h1, h2, h3, h4, h5, hv⟩ | ⟨a, b, d, e, rfl, h1, h2, h3, h6, h4, h5, hv⟩
  · rw [hv, Lib.encodeRuneZ_one (by omega) (by omega)]
    rfl
  · rw [hv, Lib.encodeRuneZ_two (by omega) (by omega)]
    simp only [List.map_cons, List.map_nil, List.cons.injEq, and_true]
    omega
  · rw [hv, Lib.encodeRuneZ_three (by omega)]
    simp only [List.map_cons, List.map_nil, List.cons.injEq, and_true]
    omega
  · rw [hv, Lib.encodeRuneZ_four (by omega) (by omega)]
    simp only [List.map_cons, List.map_nil, List.cons.injEq, and_true]
    omega
theorem val_max {c : List Nat} (h : Cd c) : valB c ≤ 1114111 := by
  rcases h.form with ⟨a, rfl, h1, hv⟩ | ⟨a, b, rfl, h1, h2, hv⟩ | ⟨a, b, d, rfl, h1, h2, h3, h4, h5, hv⟩ | ⟨a, b, d, e, rfl, h1, h2, h3, h6, h4, h5, hv⟩ <;> omega
/-! Blanks. -/
def blk (b : Nat) : Bool := b == 32 || b == 9
def rtr (l : List Nat) : List Nat := (l.reverse.dropWhile blk).reverse
def trm (l : List Nat) : List Nat := rtr (l.dropWhile blk)
theorem rtr_nil : rtr [] = [] := rfl
theorem rtr_blank {l : List Nat} {b : Nat} (h : blk b = true) : rtr (l ++ [b]) = rtr l := by
  simp [rtr, h]
theorem rtr_stop {l : List Nat} {b : Nat} (h : blk b = false) : rtr (l ++ [b]) = l ++ [b] := by
  simp [rtr, h]
/-- Of a printable text. -/
theorem Pr.rtr : ∀ (n : Nat) (l : List Nat), l.length = n → Pr l → Pr (rtr l)
  | 0, l, h, hp => by
    rw [List.length_eq_zero_iff] at h
    subst h
    exact hp
  | n + 1, l, h, hp => by
    rcases List.eq_nil_or_concat l with rfl | ⟨m, b, rfl⟩
    · exact hp
    · rw [List.concat_eq_append] at h hp ⊢
      have h9 := (hp.bytes b (by simp)).1
      cases hb : blk b with
      | false => rw [rtr_stop hb]; exact hp
      | true =>
        rw [rtr_blank hb]
        have hb32 : b = 32 := by
          simp [blk] at hb
          omega
        subst hb32
        exact Pr.rtr n m (by simpa using h) hp.unspace
theorem rtr_len (l : List Nat) : (rtr l).length ≤ l.length := by
  have h1 := (List.dropWhile_suffix (l := l.reverse) blk).length_le
  simpa [rtr] using h1
theorem dw_nil {p : Nat → Bool} : ∀ {l : List Nat}, l.dropWhile p = [] → ∀ x ∈ l, p x = true
  | [], _, x, hx => by cases hx
  | a :: l, h, x, hx => by
    rw [List.dropWhile_cons] at h
    split at h
    · rename_i ha
      rcases List.mem_cons.1 hx with rfl | hx
      · exact ha
      · exact dw_nil h x hx
    · cases h
theorem dw_idem {p : Nat → Bool} : ∀ (l : List Nat), (l.dropWhile p).dropWhile p = l.dropWhile p
  | [] => rfl
  | a :: l => by
    rw [List.dropWhile_cons]
    split
    · exact dw_idem l
    · rename_i ha
      rw [List.dropWhile_cons, if_neg ha]
theorem rtr_head {b : Nat} {l : List Nat} (h : blk b = false) : rtr (b :: l) ≠ [] := by
  intro h1
  have h2 : (b :: l).reverse.dropWhile blk = [] := by simpa [rtr] using h1
  have h3 := dw_nil h2 b (by simp)
  rw [h] at h3
  cases h3
theorem rtr_rtr (l : List Nat) : rtr (rtr l) = rtr l := by
  simp [rtr, dw_idem]
theorem trm_head {b : Nat} {l : List Nat} (h : blk b = false) : trm (b :: l) = rtr (b :: l) := by
  simp [trm, List.dropWhile, h]
theorem trm_trm {b : Nat} {l : List Nat} (h : blk b = false) : trm (rtr (b :: l)) = rtr (b :: l) := by
  cases h1 : rtr (b :: l) with
  | nil => exact absurd h1 (rtr_head h)
  | cons x t =>
    have h2 : x = b := by
      have h3 : (rtr (b :: l)) <+: (b :: l) := by
        have := (List.dropWhile_suffix (l := (b :: l).reverse) blk).reverse
        simpa [rtr] using this
      rw [h1] at h3
      exact (List.cons_prefix_cons.1 h3).1
    subst h2
    rw [trm_head h, ← h1, rtr_rtr]
end Go.Cht
namespace Go.Cht
open Go Go.Bul
/-! Numbers. -/
def digN (n : Nat) : List Nat := (Lib.decDigits n).map UInt8.toNat
theorem digN_small {n : Nat} (h : n < 10) : digN n = [48 + n] := by
  unfold digN
  rw [Lib.decDigits, dif_pos h]
  simp only [List.map_cons, List.map_nil, UInt8.toNat_ofNat', List.cons.injEq, and_true]
  omega
theorem digN_big {n : Nat} (h : ¬ n < 10) : digN n = digN (n / 10) ++ [48 + n % 10] := by
  unfold digN
  rw [Lib.decDigits, dif_neg h]
  simp only [List.map_append, List.map_cons, List.map_nil, UInt8.toNat_ofNat', List.append_cancel_left_eq, List.cons.injEq, and_true]
  omega
theorem digN_digits (n : Nat) : ∀ b ∈ digN n, 48 ≤ b ∧ b ≤ 57 := by
  induction n using Nat.strongRecOn with
  | _ n ih =>
    intro b hb
    by_cases h : n < 10
    · rw [digN_small h] at hb
      obtain rfl := List.mem_singleton.1 hb
      omega
    · rw [digN_big h] at hb
      rcases List.mem_append.1 hb with hb | hb
      · exact ih (n / 10) (by omega) b hb
      · obtain rfl := List.mem_singleton.1 hb
        omega
theorem digN_ne (n : Nat) : digN n ≠ [] := by
  by_cases h : n < 10
  · rw [digN_small h]; simp
  · rw [digN_big h]; simp
theorem digN_head (n : Nat) (h : 1 < (digN n).length) : (digN n).getD 0 0 ≠ 48 := by
  induction n using Nat.strongRecOn with
  | _ n ih =>
    by_cases h10 : n < 10
    · rw [digN_small h10] at h; simp at h
    · rw [digN_big h10]
      have hne := digN_ne (n / 10)
      have hl : 0 < (digN (n / 10)).length := List.length_pos_iff.2 hne
      rw [List.getD_eq_getElem?_getD, List.getElem?_append_left hl, ← List.getD_eq_getElem?_getD]
      by_cases h1 : 1 < (digN (n / 10)).length
      · exact ih (n / 10) (by omega) h1
      · by_cases h100 : n / 10 < 10
        · rw [digN_small h100]
          simp
          omega
        · exfalso
          rw [digN_big h100] at h1
          have := List.length_pos_iff.2 (digN_ne (n / 10 / 10))
          simp at h1
          exact absurd h1 (digN_ne _)
/-- The number that digits denote. -/
def valD (l : List Nat) : Nat := l.foldl (fun n d => 10 * n + (d - 48)) 0
theorem valD_snoc (l : List Nat) (d : Nat) : valD (l ++ [d]) = 10 * valD l + (d - 48) := by simp [valD]
theorem valD_digN (n : Nat) : valD (digN n) = n := by
  induction n using Nat.strongRecOn with
  | _ n ih =>
    by_cases h : n < 10
    · rw [digN_small h]
      simp [valD]
    · rw [digN_big h, valD_snoc, ih (n / 10) (by omega)]
      omega
theorem valD_take (l : List Nat) : ∀ k, valD (l.take k) ≤ valD (l.take (k + 1)) := by
  intro k
  by_cases h : k < l.length
  · rw [List.take_succ_eq_append_getElem h, valD_snoc]
    omega
  · rw [List.take_of_length_le (by omega), List.take_of_length_le (by omega)]
    exact Nat.le_refl _
theorem valD_le (l : List Nat) (k : Nat) : valD (l.take k) ≤ valD l := by
  have key : ∀ j, valD (l.take k) ≤ valD (l.take (k + j)) := by
    intro j
    induction j with
    | zero => exact Nat.le_refl _
    | succ j ih => exact Nat.le_trans ih (valD_take l (k + j))
  have h := key l.length
  rwa [List.take_of_length_le (show l.length ≤ k + l.length by omega)] at h
theorem digN_len (n k : Nat) (hk : 0 < k) (h : n < 10 ^ k) : (digN n).length ≤ k := by
  induction k generalizing n with
  | zero => omega
  | succ k ih =>
    by_cases h10 : n < 10
    · rw [digN_small h10]; simp
    · rw [digN_big h10, List.length_append]
      by_cases hk0 : k = 0
      · subst hk0; simp at h; omega
      · have := ih (n / 10) (by omega) (by rw [Nat.pow_succ] at h; omega)
        simpa using this
/-! Lines. -/
structure Ln where
  m : Nat
  nick : ByteArray
  text : ByteArray
def ltrB (c : Nat) : Bool := (decide (97 ≤ c) && decide (c ≤ 122)) || (decide (65 ≤ c) && decide (c ≤ 90))
def nkB (c : Nat) : Bool := ltrB c || (decide (48 ≤ c) && decide (c ≤ 57)) || c == 45 || c == 95
def nickB (l : List Nat) : Bool := decide (1 ≤ l.length) && decide (l.length ≤ 16) && ltrB (l.getD 0 0) && l.all nkB
/-- The first error of a text. -/
def chkT (l : List Nat) : Int := if l = [] then 4 else if 400 < l.length then 5 else if prtB l then 0 else 6
theorem chkT_zero {l : List Nat} : chkT l = 0 ↔ l ≠ [] ∧ l.length ≤ 400 ∧ Pr l := by
  unfold chkT
  constructor
  · intro h
    split at h
    · cases h
    · split at h
      · cases h
      · split at h
        · rename_i h1 h2 h3
          exact ⟨h1, by omega, (prtB_iff l).1 h3⟩
        · cases h
  · rintro ⟨h1, h2, h3⟩
    rw [if_neg h1, if_neg (by omega), if_pos ((prtB_iff l).2 h3)]
/-- The printed form of a line. -/
def prL (l : Ln) : List Nat := 91 :: (digN l.m ++ (93 :: 32 :: 60 :: (nums l.nick ++ (62 :: 32 :: nums l.text))))
structure OkL (l : Ln) : Prop where
  m : l.m ≤ 105190559
  nick : nickB (nums l.nick) = true
  text : chkT (nums l.text) = 0
theorem nick_bytes {l : List Nat} (h : nickB l = true) : ∀ b ∈ l, 32 ≤ b ∧ b ≤ 126 ∧ b ≠ 62 := by
  simp only [nickB, Bool.and_eq_true] at h
  intro b hb
  have h1 := List.all_eq_true.1 h.2 b hb
  simp only [nkB, ltrB, Bool.or_eq_true, Bool.and_eq_true, decide_eq_true_eq, beq_iff_eq] at h1
  omega
theorem prL_pr {l : Ln} (h : OkL l) : Pr (prL l) := by
  have h1 : Pr (91 :: (digN l.m ++ (93 :: 32 :: 60 :: (nums l.nick ++ [62, 32])))) := Pr.ascii _ (by
    intro b hb
    simp only [List.mem_cons, List.mem_append, List.not_mem_nil, or_false] at hb
    rcases hb with rfl | hb | rfl | rfl | rfl | hb | rfl | rfl
    · omega
    · have := digN_digits _ b hb; omega
    · omega
    · omega
    · omega
    · have := nick_bytes h.nick b hb; omega
    · omega
    · omega)
  have h2 := h1.app (chkT_zero.1 h.text).2.2
  simpa [prL] using h2
theorem prL_no10 {l : Ln} (h : OkL l) : 10 ∉ prL l := by
  intro h1
  have := ((prL_pr h).bytes 10 h1).1
  omega
/-- The body of an article made of lines. -/
def bodyL (ls : List Ln) : List Nat := (ls.map fun l => prL l ++ [10]).flatten
theorem bodyL_snoc (ls : List Ln) (l : Ln) : bodyL (ls ++ [l]) = bodyL ls ++ (prL l ++ [10]) := by simp [bodyL]
theorem bodyL_cons (l : Ln) (ls : List Ln) : bodyL (l :: ls) = prL l ++ 10 :: bodyL ls := by simp [bodyL]
end Go.Cht
