/- Plain arithmetic of descriptions of lines: windows, the first connected minute, the minutes counted. No condition, no program. -/
namespace Go.Lin
abbrev Win := Int × Int
/-- The first error of windows: from the end before on, at most most. -/
def chkW (most : Int) : Int → List Win → Int
  | _, [] => 0
  | b, (f, t) :: r => if f < 0 ∨ t ≤ f ∨ most < t then 2 else if f < b then 30 else chkW most t r
def mostOf (period : Int) : Int := if period = 0 then 10000000 else period
def badC (rate delay period : Int) : Prop := rate < 1 ∨ 1048576 < rate ∨ delay < 0 ∨ 1440 < delay ∨ period < 0 ∨ 10000000 < period
instance (a b c : Int) : Decidable (badC a b c) := by unfold badC; infer_instance
def chk (rate delay period : Int) (ws : List Win) : Int := if badC rate delay period then 2 else if 32 < ws.length then 9 else chkW (mostOf period) 0 ws
/-- Windows in order, from b on, at most most. -/
def Valid (most : Int) : Int → List Win → Prop
  | _, [] => True
  | b, (f, t) :: r => 0 ≤ f ∧ b ≤ f ∧ f < t ∧ t ≤ most ∧ Valid most t r
theorem chkW_zero {most : Int} : ∀ {b : Int} {ws : List Win}, chkW most b ws = 0 ↔ Valid most b ws
  | _, [] => by simp [chkW, Valid]
  | b, (f, t) :: r => by
    simp only [chkW, Valid]
    by_cases h1 : f < 0 ∨ t ≤ f ∨ most < t
    · rw [if_pos h1]; constructor
      · intro h; omega
      · intro h; omega
    · rw [if_neg h1]
      by_cases h2 : f < b
      · rw [if_pos h2]; constructor
        · intro h; omega
        · intro h; omega
      · rw [if_neg h2, chkW_zero]; constructor
        · intro h; exact ⟨by omega, by omega, by omega, by omega, h⟩
        · intro h; exact h.2.2.2.2
theorem chkW_values {most : Int} : ∀ {b : Int} {ws : List Win}, chkW most b ws = 0 ∨ chkW most b ws = 2 ∨ chkW most b ws = 30
  | _, [] => .inl rfl
  | b, (f, t) :: r => by
    simp only [chkW]
    split
    · exact .inr (.inl rfl)
    · split
      · exact .inr (.inr rfl)
      · exact chkW_values
/-- Some window holds a minute. -/
def con (m : Int) (ws : List Win) : Bool := ws.any fun w => decide (w.1 ≤ m) && decide (m < w.2)
/-- The first window that ends later holds it. -/
def conP (m : Int) : List Win → Bool
  | [] => false
  | (f, t) :: r => if m < t then decide (f ≤ m) else conP m r
theorem con_below {most : Int} : ∀ {b : Int} {ws : List Win}, Valid most b ws → ∀ m, m < b → con m ws = false
  | _, [], _, _, _ => rfl
  | b, (f, t) :: r, ⟨h0, h1, h2, h3, h4⟩, m, hm => by
    have := con_below h4 m (by omega)
    simp only [con, List.any_cons] at this ⊢
    rw [this]
    simp; omega
theorem conP_eq {most : Int} : ∀ {b : Int} {ws : List Win}, Valid most b ws → ∀ m, conP m ws = con m ws
  | _, [], _, _ => rfl
  | b, (f, t) :: r, ⟨h0, h1, h2, h3, h4⟩, m => by
    simp only [conP]
    by_cases hm : m < t
    · rw [if_pos hm]
      have := con_below h4 m hm
      simp only [con, List.any_cons] at this ⊢
      rw [this]
      simp [hm]
    · rw [if_neg hm, conP_eq h4 m]
      simp [con, List.any_cons, hm]
def phase (period m : Int) : Int := if period = 0 then m else m % period
def connected (rate delay period : Int) (ws : List Win) (m : Int) : Bool := decide (chk rate delay period ws = 0) && decide (0 ≤ m) && con (phase period m) ws

/-! ### Counting -/
def allW : List Win → Int
  | [] => 0
  | (f, t) :: r => (t - f) + allW r
def partW (m : Int) : List Win → Int
  | [] => 0
  | (f, t) :: r => max 0 (min m t - f) + partW m r
def before (period : Int) (ws : List Win) (minute : Int) : Int := partW (phase period minute) ws + (if period = 0 then 0 else minute / period * allW ws)
theorem partW_step {most : Int} : ∀ {b : Int} {ws : List Win}, Valid most b ws → ∀ m, partW (m + 1) ws = partW m ws + (if con m ws then 1 else 0)
  | _, [], _, _ => rfl
  | b, (f, t) :: r, ⟨h0, h1, h2, h3, h4⟩, m => by
    have ih := partW_step h4 m
    simp only [partW, ih]
    have hc : con m ((f, t) :: r) = ((decide (f ≤ m) && decide (m < t)) || con m r) := by simp [con]
    rw [hc]
    by_cases hm : m < t
    · rw [con_below h4 m hm]
      by_cases hf : f ≤ m
      · simp [hm, hf]; omega
      · simp [hf]; omega
    · have : (decide (f ≤ m) && decide (m < t)) = false := by simp [hm]
      rw [this, Bool.false_or]
      omega
theorem partW_zero {most : Int} : ∀ {b : Int} {ws : List Win}, Valid most b ws → 0 ≤ b → partW 0 ws = 0
  | _, [], _, _ => rfl
  | b, (f, t) :: r, ⟨h0, h1, h2, h3, h4⟩, hb => by
    have := partW_zero h4 (by omega)
    simp only [partW, this]
    omega
theorem partW_all {most : Int} : ∀ {b : Int} {ws : List Win}, Valid most b ws → ∀ m, most ≤ m → partW m ws = allW ws
  | _, [], _, _, _ => rfl
  | b, (f, t) :: r, ⟨h0, h1, h2, h3, h4⟩, m, hm => by
    have := partW_all h4 m hm
    simp only [partW, allW, this]
    omega
theorem before_step {rate delay period : Int} {ws : List Win} (hc : chk rate delay period ws = 0) (m : Int) :
    before period ws (m + 1) = before period ws m + (if con (phase period m) ws then 1 else 0) := by
  unfold chk at hc
  by_cases hb : badC rate delay period
  · rw [if_pos hb] at hc; omega
  rw [if_neg hb] at hc
  by_cases hl : 32 < ws.length
  · rw [if_pos hl] at hc; omega
  rw [if_neg hl] at hc
  have hv := chkW_zero.1 hc
  have hp : 0 ≤ period := by unfold badC at hb; omega
  by_cases h0 : period = 0
  · simp only [before, phase, h0, if_true]
    rw [partW_step hv m]; omega
  · have hmost : mostOf period = period := by unfold mostOf; rw [if_neg h0]
    rw [hmost] at hv
    have hpos : 0 < period := by omega
    simp only [before, phase, h0, if_false]
    have hr := Int.emod_nonneg m h0
    have hlt := Int.emod_lt_of_pos m hpos
    have hdm := Int.mul_ediv_add_emod m period
    rcases (show m % period + 1 < period ∨ m % period + 1 = period by omega) with h | h
    · have e1 : (m + 1) % period = m % period + 1 := by
        have h5 : m + 1 = (m % period + 1) + period * (m / period) := by omega
        rw [h5, Int.add_mul_emod_self_left, Int.emod_eq_of_lt (by omega) h]
      have e2 : (m + 1) / period = m / period := by
        have h5 : m + 1 = (m % period + 1) + period * (m / period) := by omega
        rw [h5, Int.add_mul_ediv_left _ _ h0, Int.ediv_eq_zero_of_lt (by omega) h]; omega
      rw [e1, e2, partW_step hv]; omega
    · have e1 : (m + 1) % period = 0 := by
        have h5 : m + 1 = 0 + period * (m / period + 1) := by rw [Int.mul_add]; omega
        rw [h5, Int.add_mul_emod_self_left]; simp
      have e2 : (m + 1) / period = m / period + 1 := by
        have h5 : m + 1 = 0 + period * (m / period + 1) := by rw [Int.mul_add]; omega
        rw [h5, Int.add_mul_ediv_left _ _ h0]; simp
      have h6 := partW_step hv (m % period)
      rw [h, partW_all hv period (Int.le_refl _)] at h6
      rw [e1, e2, partW_zero hv (Int.le_refl _), Int.add_mul]
      omega
/-- The connected minutes from one on, n of them looked at. -/
def count (rate delay period : Int) (ws : List Win) (m : Int) : Nat → Int
  | 0 => 0
  | n + 1 => count rate delay period ws m n + (if connected rate delay period ws (m + n) then 1 else 0)
theorem before_count {rate delay period : Int} {ws : List Win} (hc : chk rate delay period ws = 0) (m : Int) (hm : 0 ≤ m) : ∀ n : Nat,
    before period ws (m + n) = before period ws m + count rate delay period ws m n
  | 0 => by simp [count]
  | n + 1 => by
    have h1 := before_count hc m hm n
    have h2 := before_step hc (m + n)
    have h3 : connected rate delay period ws (m + n) = con (phase period (m + n)) ws := by simp [connected, hc]; omega
    rw [count, h3, show m + ((n + 1 : Nat) : Int) = m + n + 1 by omega, h2, h1]
    omega
end Go.Lin
