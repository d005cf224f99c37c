/- Plain arithmetic of descriptions of lines: windows, the first connected minute, the minutes counted. No condition, no program. Plain arithmetic of descriptions of lines: the first connected minute, as the program finds it and as the reference does. No condition, no program. -/
namespace Go.Lin
abbrev Win := Int × Int
/-- The first error of windows: from the end before on, at most most. -/
def chkW (most : Int) : Int → List Win → Int
  | _, [] => 0
  | b, (f, t) :: r => if f < 0 ∨ t ≤ f ∨ most < t then 2 else if f < b then 30 else chkW most t r
def mostOf (period : Int) : Int := if period = 0 then 10000000 else period
def badC (rate delay period : Int) : Prop := rate < 1 ∨ 1048576 < rate ∨ delay < 0 ∨ 1440 < delay ∨ period < 0 ∨ 10000000 < period
instance (a b c : Int) : Decidable (badC a b c) := by unfold badC; infer_instance
def chk (rate delay period : Int) (ws : List Win) : Int := if badC rate delay period then 2 else if 32 < ws.length then 9 else chkW (mostOf period) 0 ws
/-- Windows in order, from b on, at most most. -/
def Valid (most : Int) : Int → List Win → Prop
  | _, [] => True
  | b, (f, t) :: r => 0 ≤ f ∧ b ≤ f ∧ f < t ∧ t ≤ most ∧ Valid most t r
theorem chkW_zero {most : Int} : ∀ {b : Int} {ws : List Win}, chkW most b ws = 0 ↔ Valid most b ws
  | _, [] => by simp [chkW, Valid]
  | b, (f, t) :: r => by
    simp only [chkW, Valid]
    by_cases h1 : f < 0 ∨ t ≤ f ∨ most < t
    · rw [if_pos h1]; constructor
      · intro h; omega
      · intro h; omega
    · rw [if_neg h1]
      by_cases h2 : f < b
      · rw [if_pos h2]; constructor
        · intro h; omega
        · intro h; omega
      · rw [if_neg h2, chkW_zero]; constructor
        · intro h; exact ⟨by omega, by omega, by omega, by omega, h⟩
        · intro h; exact h.2.2.2.2
theorem chkW_values {most : Int} : ∀ {b : Int} {ws : List Win}, chkW most b ws = 0 ∨ chkW most b ws = 2 ∨ chkW most b ws = 30
  | _, [] => .inl rfl
  | b, (f, t) :: r => by
    simp only [chkW]
    split
    · exact .inr (.inl rfl)
    · split
      · exact .inr (.inr rfl)
      · exact chkW_values
/-- Some window holds a minute. -/
def con (m : Int) (ws : List Win) : Bool := ws.any fun w => decide (w.1 ≤ m) && decide (m < w.2)
/-- The first window that ends later holds it. -/
def conP (m : Int) : List Win → Bool
  | [] => false
  | (f, t) :: r => if m < t then decide (f ≤ m) else conP m r
theorem con_below {most : Int} : ∀ {b : Int} {ws : List Win}, Valid most b ws → ∀ m, m < b → con m ws = false
  | _, [], _, _, _ => rfl
  | b, (f, t) :: r, ⟨h0, h1, h2, h3, h4⟩, m, hm => by
    have := con_below h4 m (by omega)
    simp only [con, List.any_cons] at this ⊢
    rw [this]
    simp; omega
theorem conP_eq {most : Int} : ∀ {b : Int} {ws : List Win}, Valid most b ws → ∀ m, conP m ws = con m ws
  | _, [], _, _ => rfl
  | b, (f, t) :: r, ⟨h0, h1, h2, h3, h4⟩, m => by
    simp only [conP]
    by_cases hm : m < t
    · rw [if_pos hm]
      have := con_below h4 m hm
      simp only [con, List.any_cons] at this ⊢
      rw [this]
      simp [hm]
    · rw [if_neg hm, conP_eq h4 m]
      simp [con, List.any_cons, hm]
def phase (period m : Int) : Int := if period = 0 then m else m % period
def connected (rate delay period : Int) (ws : List Win) (m : Int) : Bool := decide (chk rate delay period ws = 0) && decide (0 ≤ m) && con (phase period m) ws

/-! ### Counting -/
def allW : List Win → Int
  | [] => 0
  | (f, t) :: r => (t - f) + allW r
def partW (m : Int) : List Win → Int
  | [] => 0
  | (f, t) :: r => max 0 (min m t - f) + partW m r
def before (period : Int) (ws : List Win) (minute : Int) : Int := partW (phase period minute) ws + (if period = 0 then 0 else minute / period * allW ws)
theorem partW_step {most : Int} : ∀ {b : Int} {ws : List Win}, Valid most b ws → ∀ m, partW (m + 1) ws = partW m ws + (if con m ws then 1 else 0)
  | _, [], _, _ => rfl
  | b, (f, t) :: r, ⟨h0, h1, h2, h3, h4⟩, m => by
    have ih := partW_step h4 m
    simp only [partW, ih]
    have hc : con m ((f, t) :: r) = ((decide (f ≤ m) && decide (m < t)) || con m r) := by simp [con]
    rw [hc]
    by_cases hm : m < t
    · rw [con_below h4 m hm]
      by_cases hf : f ≤ m
      · simp [hm, hf]; omega
      · simp [hf]; omega
    · have : (decide (f ≤ m) && decide (m < t)) = false := by simp [hm]
      rw [this, Bool.false_or]
      omega
theorem partW_zero {most : Int} : ∀ {b : Int} {ws : List Win}, Valid most b ws → 0 ≤ b → partW 0 ws = 0
  | _, [], _, _ => rfl
  | b, (f, t) :: r, ⟨h0, h1, h2, h3, h4⟩, hb => by
    have := partW_zero h4 (by omega)
    simp only [partW, this]
    omega
theorem partW_all {most : Int} : ∀ {b : Int} {ws : List Win}, Valid most b ws → ∀ m, most ≤ m → partW m ws = allW ws
  | _, [], _, _, _ => rfl
  | b, (f, t) :: r, ⟨h0, h1, h2, h3, h4⟩, m, hm => by
    have := partW_all h4 m hm
    simp only [partW, allW, this]
    omega
theorem before_step {rate delay period : Int} {ws : List Win} (hc : chk rate delay period ws = 0) (m : Int) :
    before period ws (m + 1) = before period ws m + (if con (phase period m) ws then 1 else 0) := by
  unfold chk at hc
  by_cases hb : badC rate delay period
  · rw [if_pos hb] at hc; omega
  rw [if_neg hb] at hc
  by_cases hl : 32 < ws.length
  · rw [if_pos hl] at hc; omega
  rw [if_neg hl] at hc
  have hv := chkW_zero.1 hc
  have hp : 0 ≤ period := by unfold badC at hb; omega
  by_cases h0 : period = 0
  · simp only [before, phase, h0, if_true]
    rw [partW_step hv m]; omega
  · have hmost : mostOf period = period := by unfold mostOf; rw [if_neg h0]
    rw [hmost] at hv
    have hpos : 0 < period := by omega
    simp only [before, phase, h0, if_false]
    have hr := Int.emod_nonneg m h0
    have hlt := Int.emod_lt_of_pos m hpos
    have hdm := Int.mul_ediv_add_emod m period
    rcases (show m % period + 1 < period ∨ m % period + 1 = period by omega) with h | h
    · have e1 : (m + 1) % period = m % period + 1 := by
        have h5 : m + 1 = (m % period + 1) + period * (m / period) := by omega
        rw [h5, Int.add_mul_emod_self_left, Int.emod_eq_of_lt (by omega) h]
      have e2 : (m + 1) / period = m / period := by
        have h5 : m + 1 = (m % period + 1) + period * (m / period) := by omega
        rw [h5, Int.add_mul_ediv_left _ _ h0, Int.ediv_eq_zero_of_lt (by omega) h]; omega
      rw [e1, e2, partW_step hv]; omega
    · have e1 : (m + 1) % period = 0 := by
        have h5 : m + 1 = 0 + period * (m / period + 1) := by rw [Int.mul_add]; omega
        rw [h5, Int.add_mul_emod_self_left]; simp
      have e2 : (m + 1) / period = m / period + 1 := by
        have h5 : m + 1 = 0 + period * (m / period + 1) := by rw [Int.mul_add]; omega
        rw [h5, Int.add_mul_ediv_left _ _ h0]; simp
      have h6 := partW_step hv (m % period)
      rw [h, partW_all hv period (Int.le_refl _)] at h6
      rw [e1, e2, partW_zero hv (Int.le_refl _), Int.add_mul]
      omega
/-- The connected minutes from one on, n of them looked at. -/
def count (rate delay period : Int) (ws : List Win) (m : Int) : Nat → Int
  | 0 => 0
  | n + 1 => count rate delay period ws m n + (if connected rate delay period ws (m + n) then 1 else 0)
theorem before_count {rate delay period : Int} {ws : List Win} (hc : chk rate delay period ws = 0) (m : Int) (hm : 0 ≤ m) : ∀ n : Nat,
    before period ws (m + n) = before period ws m + count rate delay period ws m n
  | 0 => by simp [count]
  | n + 1 => by
    have h1 := before_count hc m hm n
    have h2 := before_step hc (m + n)
    have h3 : connected rate delay period ws (m + n) = con (phase period (m + n)) ws := by simp [connected, hc]; omega
    rw [count, h3, show m + ((n + 1 : Nat) : Int) = m + n + 1 by omega, h2, h1]
    omega
end Go.Lin
namespace Go.Lin
/-- A valid description, in parts. -/
theorem chk_parts {rate delay period : Int} {ws : List Win} (hc : chk rate delay period ws = 0) : ¬ badC rate delay period ∧ ws.length ≤ 32 ∧ 0 ≤ period ∧ Valid (mostOf period) 0 ws := by
  unfold chk at hc
  by_cases hb : badC rate delay period
  · rw [if_pos hb] at hc; omega
  rw [if_neg hb] at hc
  by_cases hl : 32 < ws.length
  · rw [if_pos hl] at hc; omega
  rw [if_neg hl] at hc
  exact ⟨hb, by omega, by unfold badC at hb; omega, chkW_zero.1 hc⟩
/-- The least minute from one on with a property. -/
def IsNext (P : Int → Bool) (m n : Int) : Prop := m ≤ n ∧ P n = true ∧ ∀ j, m ≤ j → j < n → P j = false
theorem IsNext.unique {P : Int → Bool} {m a b : Int} (ha : IsNext P m a) (hb : IsNext P m b) : a = b := by
  obtain ⟨a1, a2, a3⟩ := ha
  obtain ⟨b1, b2, b3⟩ := hb
  rcases (show a < b ∨ a = b ∨ b < a by omega) with h | h | h
  · rw [b3 a a1 h] at a2; cases a2
  · exact h
  · rw [a3 b b1 h] at b2; cases b2
def findP (m : Int) : List Win → Option Int
  | [] => none
  | (f, t) :: r => if m < t then some (max m f) else findP m r
theorem findP_some {most : Int} : ∀ {b : Int} {ws : List Win}, Valid most b ws → ∀ {m x : Int}, findP m ws = some x → IsNext (fun j => con j ws) m x ∧ x < most
  | _, [], _, _, _, h => by cases h
  | b, (f, t) :: r, ⟨h0, h1, h2, h3, h4⟩, m, x, h => by
    simp only [findP] at h
    by_cases hm : m < t
    · rw [if_pos hm, Option.some.injEq] at h
      subst h
      refine ⟨⟨by omega, ?_, fun j hj hlt => ?_⟩, by omega⟩
      · simp [con, List.any_cons]
        left; omega
      · have h5 : j < f := by omega
        exact con_below (b := f) (ws := (f, t) :: r) ⟨h0, Int.le_refl _, h2, h3, h4⟩ j h5
    · rw [if_neg hm] at h
      obtain ⟨⟨i1, i2, i3⟩, i4⟩ := findP_some h4 h
      have hc : ∀ j, m ≤ j → con j ((f, t) :: r) = con j r := fun j hj => by
        have : (decide (f ≤ j) && decide (j < t)) = false := by simp; omega
        simp only [con, List.any_cons] at *
        rw [this, Bool.false_or]
      exact ⟨⟨i1, (hc x i1).trans i2, fun j hj hlt => (hc j hj).trans (i3 j hj hlt)⟩, i4⟩
theorem findP_none {most : Int} : ∀ {b : Int} {ws : List Win}, Valid most b ws → ∀ {m : Int}, findP m ws = none → ∀ j, m ≤ j → con j ws = false
  | _, [], _, _, _ => fun _ _ => rfl
  | b, (f, t) :: r, ⟨h0, h1, h2, h3, h4⟩, m, h => fun j hj => by
    simp only [findP] at h
    by_cases hm : m < t
    · rw [if_pos hm] at h; cases h
    · rw [if_neg hm] at h
      have h5 := findP_none h4 h j hj
      have : (decide (f ≤ j) && decide (j < t)) = false := by simp; omega
      simp only [con, List.any_cons] at h5 ⊢
      rw [this, h5]; rfl
/-- The program's answer for a valid description and a minute that is not negative. -/
def nextP (period : Int) (ws : List Win) (minute : Int) : Option Int :=
  match findP (phase period minute) ws with
  | some x => some (minute - phase period minute + x)
  | none => match ws with
    | [] => none
    | (f, _) :: _ => if period = 0 then none else some (minute - phase period minute + period + f)
def onAt (period : Int) (ws : List Win) (j : Int) : Bool := con (phase period j) ws
theorem phase_at {period q j : Int} (_ : 0 < period) (h1 : period * q ≤ j) (h2 : j < period * q + period) : j % period = j - period * q := by
  have : j = (j - period * q) + period * q := by omega
  conv => lhs; rw [this]
  rw [Int.add_mul_emod_self_left, Int.emod_eq_of_lt (by omega) (by omega)]
theorem nextP_some {rate delay period : Int} {ws : List Win} (hc : chk rate delay period ws = 0) {minute n : Int} (h : nextP period ws minute = some n) : IsNext (onAt period ws) minute n := by
  obtain ⟨_, _, hp, hv⟩ := chk_parts hc
  unfold nextP at h
  by_cases h0 : period = 0
  · subst h0
    have hph : ∀ j, phase 0 j = j := fun j => by simp [phase]
    rw [hph] at h
    have hon : onAt 0 ws = fun j => con j ws := by funext j; simp [onAt, hph]
    rw [hon]
    cases hf : findP minute ws with
    | some x =>
      rw [hf] at h
      simp only [Option.some.injEq] at h
      have := (findP_some hv hf).1
      rwa [show x = n by omega] at this
    | none =>
      rw [hf] at h
      cases ws with
      | nil => cases h
      | cons w r => obtain ⟨f, t⟩ := w; simp at h
  · have hpos : 0 < period := by omega
    have hmost : mostOf period = period := by unfold mostOf; rw [if_neg h0]
    rw [hmost] at hv
    have hph : ∀ j, phase period j = j % period := fun j => by simp [phase, h0]
    obtain ⟨q, hq⟩ : ∃ q, q = minute / period := ⟨_, rfl⟩
    have hdm := Int.mul_ediv_add_emod minute period
    have hr := Int.emod_nonneg minute h0
    have hlt := Int.emod_lt_of_pos minute hpos
    rw [← hq] at hdm
    rw [hph] at h
    have hon : ∀ q' j, period * q' ≤ j → j < period * q' + period → onAt period ws j = con (j - period * q') ws := fun q' j h1 h2 => by
      rw [onAt, hph, phase_at hpos h1 h2]
    cases hf : findP (minute % period) ws with
    | some x =>
      rw [hf] at h
      simp only [Option.some.injEq] at h
      obtain ⟨⟨i1, i2, i3⟩, i4⟩ := findP_some hv hf
      refine ⟨by omega, ?_, fun j hj hlt' => ?_⟩
      · rw [hon q n (by omega) (by omega), show n - period * q = x by omega]; exact i2
      · rw [hon q j (by omega) (by omega)]; exact i3 _ (by omega) (by omega)
    | none =>
      rw [hf] at h
      cases ws with
      | nil => cases h
      | cons w r =>
        obtain ⟨f, t⟩ := w
        simp only [h0, if_false, Option.some.injEq] at h
        obtain ⟨v0, v1, v2, v3, v4⟩ := hv
        have hq1 : period * (q + 1) = period * q + period := by rw [Int.mul_add]; omega
        have hno := findP_none (ws := (f, t) :: r) ⟨v0, v1, v2, v3, v4⟩ hf
        refine ⟨by omega, ?_, fun j hj hlt' => ?_⟩
        · rw [hon (q + 1) n (by omega) (by omega), show n - period * (q + 1) = f by omega]
          simp [con, List.any_cons]
          left; exact v2
        · by_cases hj2 : j < period * (q + 1)
          · rw [hon q j (by omega) (by omega)]; exact hno _ (by omega)
          · rw [hon (q + 1) j (by omega) (by omega)]
            exact con_below (b := f) (ws := (f, t) :: r) ⟨v0, Int.le_refl _, v2, v3, v4⟩ _ (by omega)
theorem nextP_none {rate delay period : Int} {ws : List Win} (hc : chk rate delay period ws = 0) {minute : Int} (h : nextP period ws minute = none) : ∀ j, minute ≤ j → onAt period ws j = false := by
  obtain ⟨_, _, hp, hv⟩ := chk_parts hc
  unfold nextP at h
  cases hf : findP (phase period minute) ws with
  | some x => rw [hf] at h; cases h
  | none =>
    rw [hf] at h
    cases ws with
    | nil => intro j _; rfl
    | cons w r =>
      obtain ⟨f, t⟩ := w
      by_cases h0 : period = 0
      · subst h0
        intro j hj
        have := findP_none hv hf j (by simpa [phase] using hj)
        simpa [onAt, phase] using this
      · simp [h0] at h

/-! ### The reference -/
def atR (period minute : Int) (w : Win) : Int := if period = 0 then w.1 else if minute / period * period + w.1 < minute then minute / period * period + w.1 + period else minute / period * period + w.1
def bestR (period minute : Int) : Int → List Win → Int
  | best, [] => best
  | best, w :: r => bestR period minute (if minute ≤ atR period minute w ∧ (best < 0 ∨ atR period minute w < best) then atR period minute w else best) r
theorem bestR_spec {period minute : Int} (hm : 0 ≤ minute) : ∀ (ws : List Win) (best : Int), (best = -1 ∨ 0 ≤ best) →
    (bestR period minute best ws = best ∨ ∃ w ∈ ws, minute ≤ atR period minute w ∧ bestR period minute best ws = atR period minute w) ∧
    (0 ≤ best → 0 ≤ bestR period minute best ws ∧ bestR period minute best ws ≤ best) ∧
    ∀ w ∈ ws, minute ≤ atR period minute w → 0 ≤ bestR period minute best ws ∧ bestR period minute best ws ≤ atR period minute w
  | [], best, hb => ⟨.inl rfl, fun h => ⟨h, Int.le_refl _⟩, fun w h => by cases h⟩
  | w :: r, best, hb => by
    simp only [bestR]
    by_cases hc : minute ≤ atR period minute w ∧ (best < 0 ∨ atR period minute w < best)
    · rw [if_pos hc]
      obtain ⟨i1, i2, i3⟩ := bestR_spec hm r (atR period minute w) (.inr (by omega))
      have i4 := i2 (by omega)
      refine ⟨.inr ?_, fun h => ⟨i4.1, by omega⟩, fun v hv hle => ?_⟩
      · rcases i1 with e | ⟨v, hv, h1, h2⟩
        · exact ⟨w, by simp, hc.1, e⟩
        · exact ⟨v, by simp [hv], h1, h2⟩
      · rcases List.mem_cons.1 hv with rfl | hv
        · exact i4
        · exact i3 v hv hle
    · rw [if_neg hc]
      obtain ⟨i1, i2, i3⟩ := bestR_spec hm r best hb
      refine ⟨?_, i2, fun v hv hle => ?_⟩
      · rcases i1 with e | ⟨v, hv, h1, h2⟩
        · exact .inl e
        · exact .inr ⟨v, by simp [hv], h1, h2⟩
      · rcases List.mem_cons.1 hv with rfl | hv
        · have i5 := i2 (by omega)
          exact ⟨i5.1, by omega⟩
        · exact i3 v hv hle
def nextR (period : Int) (ws : List Win) (minute : Int) : Int := if onAt period ws minute then minute else bestR period minute (-1) ws
theorem valid_mem {most : Int} : ∀ {b : Int} {ws : List Win}, Valid most b ws → ∀ w ∈ ws, 0 ≤ w.1 ∧ w.1 < w.2 ∧ w.2 ≤ most
  | _, [], _, w, h => by cases h
  | b, (f, t) :: r, ⟨h0, h1, h2, h3, h4⟩, w, h => by
    rcases List.mem_cons.1 h with rfl | h
    · exact ⟨h0, h2, h3⟩
    · exact valid_mem h4 w h
theorem con_iff {m : Int} {ws : List Win} : con m ws = true ↔ ∃ w ∈ ws, w.1 ≤ m ∧ m < w.2 := by
  simp [con]
/-- Both find the same minute. -/
theorem next_eq {rate delay period : Int} {ws : List Win} (hc : chk rate delay period ws = 0) {minute : Int} (hm : 0 ≤ minute) :
    nextR period ws minute = match nextP period ws minute with | some n => n | none => -1 := by
  obtain ⟨_, _, hp, hv⟩ := chk_parts hc
  have hmem := valid_mem hv
  unfold nextR
  by_cases hon : onAt period ws minute = true
  · rw [if_pos hon]
    cases h : nextP period ws minute with
    | some n =>
      have h1 := nextP_some hc h
      exact (IsNext.unique (P := onAt period ws) (m := minute) ⟨Int.le_refl _, hon, fun j h1 h2 => by omega⟩ h1)
    | none =>
      have := nextP_none hc h minute (Int.le_refl _)
      rw [hon] at this; cases this
  · rw [if_neg hon]
    obtain ⟨s1, _, s3⟩ := bestR_spec (period := period) hm ws (-1) (.inl rfl)
    -- a candidate is connected
    have hcand : ∀ w ∈ ws, onAt period ws (atR period minute w) = true := fun w hw => by
      obtain ⟨h1, h2, h3⟩ := hmem w hw
      unfold onAt
      refine con_iff.2 ⟨w, hw, ?_⟩
      by_cases h0 : period = 0
      · simp [atR, phase, h0]; omega
      · have hpos : 0 < period := by omega
        have hmost : mostOf period = period := by unfold mostOf; rw [if_neg h0]
        rw [hmost] at h3
        simp only [atR, phase, h0, if_false]
        rw [Int.mul_comm (minute / period) period]
        split
        · rw [phase_at (q := minute / period + 1) hpos (by rw [Int.mul_add]; omega) (by rw [Int.mul_add]; omega), Int.mul_add]; omega
        · rw [phase_at (q := minute / period) hpos (by omega) (by omega)]; omega
    -- nothing connected lies before the candidates
    have hleast : ∀ j, minute ≤ j → onAt period ws j = true → ∃ w ∈ ws, minute ≤ atR period minute w ∧ atR period minute w ≤ j := fun j hj hjc => by
      obtain ⟨w, hw, h4, h5⟩ := con_iff.1 hjc
      obtain ⟨h1, h2, h3⟩ := hmem w hw
      refine ⟨w, hw, ?_⟩
      by_cases h0 : period = 0
      · subst h0
        simp only [phase, if_true] at h4 h5
        simp only [atR, if_true]
        refine ⟨Classical.byContradiction fun h => hon (con_iff.2 ⟨w, hw, ?_⟩), h4⟩
        simp only [phase, if_true]; omega
      · have hpos : 0 < period := by omega
        have hmost : mostOf period = period := by unfold mostOf; rw [if_neg h0]
        rw [hmost] at h3
        have hph : ∀ j, phase period j = j % period := fun j => by simp [phase, h0]
        rw [hph] at h4 h5
        have d1 := Int.mul_ediv_add_emod minute period
        have d2 := Int.mul_ediv_add_emod j period
        have r1 := Int.emod_nonneg minute h0
        have l1 := Int.emod_lt_of_pos minute hpos
        have r2 := Int.emod_nonneg j h0
        have l2 := Int.emod_lt_of_pos j hpos
        have hqq : minute / period ≤ j / period := Int.ediv_le_ediv hpos hj
        simp only [atR, h0, if_false]
        rw [Int.mul_comm (minute / period) period]
        obtain ⟨q1, hq1⟩ : ∃ q, q = minute / period := ⟨_, rfl⟩
        obtain ⟨q2, hq2⟩ : ∃ q, q = j / period := ⟨_, rfl⟩
        rw [← hq1] at d1 hqq ⊢
        rw [← hq2] at d2 hqq
        rcases (show q1 = q2 ∨ q1 + 1 ≤ q2 by omega) with he | he
        · subst he
          by_cases hlt : period * q1 + w.1 < minute
          · exfalso
            refine hon (con_iff.2 ⟨w, hw, ?_⟩)
            rw [hph]; omega
          · rw [if_neg hlt]; omega
        · have hmul : period * (q1 + 1) ≤ period * q2 := Int.mul_le_mul_of_nonneg_left he (by omega)
          rw [Int.mul_add] at hmul
          split
          · omega
          · omega
    cases h : nextP period ws minute with
    | some n =>
      obtain ⟨n1, n2, n3⟩ := nextP_some hc h
      obtain ⟨w, hw, h1, h2⟩ := hleast n n1 n2
      have h3 := s3 w hw h1
      rcases s1 with e | ⟨v, hv', h4, h5⟩
      · omega
      · have h6 := hcand v hv'
        rcases (show n ≤ atR period minute v ∨ atR period minute v < n by omega) with h7 | h7
        · show _ = n
          omega
        · rw [n3 _ h4 h7] at h6; cases h6
    | none =>
      have hno := nextP_none hc h
      rcases s1 with e | ⟨v, hv', h4, h5⟩
      · exact e
      · have := hcand v hv'
        rw [hno _ h4] at this; cases this
end Go.Lin
