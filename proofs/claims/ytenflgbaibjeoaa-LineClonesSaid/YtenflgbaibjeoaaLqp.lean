/- The reference's line, byte by byte; that it is the program's. No program. -/
import Derived.Test.YtenflgbaibjeoaaLqn
import Derived.Test.YtenflgbaibjeoaaLce
namespace Go.Lin
open Go
abbrev BW := List (Nat × Int)
/-- The reference's line. -/
structure RL where
  r : Int
  d : Int
  p : Int
  ws : List Win
  now : Int
  up : Bool
  ses : Int
  w0 : List Nat
  y0 : BW
  a0 : List Nat
  w1 : List Nat
  y1 : BW
  a1 : List Nat
/-- Packets, byte by byte. -/
def spread (w : Way) : BW := w.flatMap fun x => x.1.map fun b => (b, x.2)
def dueR (n : Int) (y : BW) : List Nat := (y.filter fun x => decide (x.2 ≤ n)).map (·.1)
def leftR (n : Int) (y : BW) : BW := y.filter fun x => !decide (x.2 ≤ n)
theorem spread_app (a b : Way) : spread (a ++ b) = spread a ++ spread b := by simp [spread]
theorem spread_length (w : Way) : (spread w).length = wb w := by
  simp [spread, wb, List.length_flatMap]
theorem filter_map_all (b : List Nat) (m n : Int) : (b.map fun x => (x, m)).filter (fun x => decide (x.2 ≤ n)) = if m ≤ n then b.map fun x => (x, m) else [] := by
  split
  · rename_i h
    refine List.filter_eq_self.2 fun x hx => ?_
    obtain ⟨y, _, rfl⟩ := List.mem_map.1 hx
    simpa using h
  · rename_i h
    refine List.filter_eq_nil_iff.2 fun x hx => ?_
    obtain ⟨y, _, rfl⟩ := List.mem_map.1 hx
    simpa using h
theorem filter_map_none (b : List Nat) (m n : Int) : (b.map fun x => (x, m)).filter (fun x => !decide (x.2 ≤ n)) = if m ≤ n then [] else b.map fun x => (x, m) := by
  split
  · rename_i h
    refine List.filter_eq_nil_iff.2 fun x hx => ?_
    obtain ⟨y, _, rfl⟩ := List.mem_map.1 hx
    simpa using h
  · rename_i h
    refine List.filter_eq_self.2 fun x hx => ?_
    obtain ⟨y, _, rfl⟩ := List.mem_map.1 hx
    simpa using h
theorem spread_late {n : Int} : ∀ {w : Way}, (∀ x ∈ w, n < x.2) → dueR n (spread w) = [] ∧ leftR n (spread w) = spread w := by
  intro w h
  have h1 : ∀ x ∈ spread w, n < x.2 := fun x hx => by
    obtain ⟨y, hy, hx⟩ := List.mem_flatMap.1 hx
    obtain ⟨b, _, rfl⟩ := List.mem_map.1 hx
    exact h y hy
  constructor
  · unfold dueR
    rw [List.filter_eq_nil_iff.2 fun x hx => by have := h1 x hx; simp; omega]
    rfl
  · unfold leftR
    exact List.filter_eq_self.2 fun x hx => by have := h1 x hx; simp; omega
theorem due_spread {n : Int} : ∀ {w : Way}, Sorted w → dueR n (spread w) = dueL n w ∧ leftR n (spread w) = spread (restL n w)
  | [], _ => ⟨rfl, rfl⟩
  | (b, m) :: l, hs => by
    have hs2 := List.pairwise_cons.1 hs
    by_cases hm : m ≤ n
    · obtain ⟨i1, i2⟩ := due_spread (n := n) hs2.2
      have e : spread ((b, m) :: l) = (b.map fun x => (x, m)) ++ spread l := by simp [spread]
      simp only [dueL, restL, if_pos hm]
      rw [e]
      constructor
      · unfold dueR at i1 ⊢
        rw [List.filter_append, List.map_append, i1, filter_map_all, if_pos hm, List.map_map]
        congr 1
        exact List.map_id' b
      · unfold leftR at i2 ⊢
        rw [List.filter_append, i2, filter_map_none, if_pos hm]
        rfl
    · simp only [dueL, restL, if_neg hm]
      exact spread_late fun x hx => by
        rcases List.mem_cons.1 hx with rfl | hx
        · simp only; omega
        · have := hs2.1 x hx
          simp only at this; omega
/-- A side has sent. -/
def sendW (r : Int) (w : List Nat) : List Nat := w.drop r.toNat
def sendY (r at' : Int) (w : List Nat) (y : BW) : BW := y ++ (w.take r.toNat).map fun b => (b, at')
def sentR (T : RL) : RL := if T.up then { T with w0 := sendW T.r T.w0, y0 := sendY T.r (T.now + 1 + T.d) T.w0 T.y0, w1 := sendW T.r T.w1, y1 := sendY T.r (T.now + 1 + T.d) T.w1 T.y1 } else T
def comeR (T : RL) : RL := { T with now := T.now + 1, y0 := leftR (T.now + 1) T.y0, y1 := leftR (T.now + 1) T.y1, a0 := T.a0 ++ dueR (T.now + 1) T.y1, a1 := T.a1 ++ dueR (T.now + 1) T.y0 }
def downR (T : RL) : RL := { T with up := false, w0 := [], y0 := [], w1 := [], y1 := [] }
def upR (T : RL) : RL := { T with up := true, ses := T.ses + 1, a0 := [], a1 := [] }
def turnR (T : RL) : RL := if T.up then (if connected T.r T.d T.p T.ws T.now then T else downR T) else (if connected T.r T.d T.p T.ws T.now then upR T else T)
def minuteR (T : RL) : RL := turnR (comeR (sentR T))
/-- The same line. -/
structure Rel (S : Ln) (T : RL) : Prop where
  r : T.r = S.r
  d : T.d = S.d
  p : T.p = S.p
  ws : T.ws = S.ws
  now : T.now = S.now
  up : T.up = S.up
  ses : T.ses = S.ses
  w0 : T.w0 = S.e0.wait
  y0 : T.y0 = spread S.e0.way
  a0 : T.a0 = S.e0.arr
  w1 : T.w1 = S.e1.wait
  y1 : T.y1 = spread S.e1.way
  a1 : T.a1 = S.e1.arr
/-- Packets in the order of their minutes. -/
structure WOk (S : Ln) : Prop where
  s0 : Sorted S.e0.way
  s1 : Sorted S.e1.way
  b0 : ∀ x ∈ S.e0.way, x.2 ≤ S.now + S.d
  b1 : ∀ x ∈ S.e1.way, x.2 ≤ S.now + S.d
theorem sent_spread {r now d : Int} (E : Sd) : spread (sent r now d E).way = sendY r (now + 1 + d) E.wait (spread E.way) ∧ (sent r now d E).wait = sendW r E.wait := by
  unfold sent sendY sendW
  split
  · refine ⟨?_, rfl⟩
    rw [spread_app]
    simp [spread]
  · rename_i h
    have : E.wait = [] := List.eq_nil_of_length_eq_zero (by omega)
    rw [this]
    simp
theorem sent_sorted {r now d : Int} {E : Sd} (hs : Sorted E.way) (hb : ∀ x ∈ E.way, x.2 ≤ now + d) : Sorted (sent r now d E).way ∧ ∀ x ∈ (sent r now d E).way, x.2 ≤ now + 1 + d := by
  unfold sent
  split
  · refine ⟨List.pairwise_append.2 ⟨hs, List.pairwise_singleton _ _, fun x hx y hy => ?_⟩, fun x hx => ?_⟩
    · rw [List.mem_singleton.1 hy]
      have := hb x hx
      simp only; omega
    · rcases List.mem_append.1 hx with hx | hx
      · have := hb x hx; omega
      · rw [List.mem_singleton.1 hx]; simp only; omega
  · exact ⟨hs, fun x hx => by have := hb x hx; omega⟩
theorem wok_arrive {S : Ln} (h0 : Sorted S.e0.way) (h1 : Sorted S.e1.way) (b0 : ∀ x ∈ S.e0.way, x.2 ≤ S.now + 1 + S.d) (b1 : ∀ x ∈ S.e1.way, x.2 ≤ S.now + 1 + S.d) : WOk (arrive S) :=
  ⟨List.Pairwise.sublist (rest_sub _ _) h0, List.Pairwise.sublist (rest_sub _ _) h1, fun x hx => b0 x (rest_mem hx), fun x hx => b1 x (rest_mem hx)⟩
theorem wok_sendAll {S : Ln} (h : WOk S) : (Sorted (sendAll S).e0.way ∧ Sorted (sendAll S).e1.way) ∧ (∀ x ∈ (sendAll S).e0.way, x.2 ≤ S.now + 1 + S.d) ∧ ∀ x ∈ (sendAll S).e1.way, x.2 ≤ S.now + 1 + S.d := by
  unfold sendAll
  split
  · obtain ⟨a1, a2⟩ := sent_sorted (r := S.r) h.s0 h.b0
    obtain ⟨b1, b2⟩ := sent_sorted (r := S.r) h.s1 h.b1
    exact ⟨⟨a1, b1⟩, a2, b2⟩
  · exact ⟨⟨h.s0, h.s1⟩, fun x hx => by have := h.b0 x hx; omega, fun x hx => by have := h.b1 x hx; omega⟩
theorem wok_pass {S : Ln} (h : WOk S) : WOk (passS S) := by
  obtain ⟨⟨a1, b1⟩, a2, b2⟩ := wok_sendAll h
  have hn : (sendAll S).now = S.now := by unfold sendAll; split <;> rfl
  have hd : (sendAll S).d = S.d := by unfold sendAll; split <;> rfl
  have hk := wok_arrive a1 b1 (by rw [hn, hd]; exact a2) (by rw [hn, hd]; exact b2)
  unfold passS turnS
  repeat' split
  · exact hk
  · exact ⟨List.Pairwise.nil, List.Pairwise.nil, fun x hx => by simp [downS] at hx, fun x hx => by simp [downS] at hx⟩
  · exact ⟨hk.s0, hk.s1, hk.b0, hk.b1⟩
  · exact hk
theorem rel_send {S : Ln} {T : RL} (h : Rel S T) : Rel (sendAll S) (sentR T) := by
  unfold sendAll sentR
  rw [h.up]
  split
  · rename_i hu
    obtain ⟨a1, a2⟩ := sent_spread (r := S.r) (now := S.now) (d := S.d) S.e0
    obtain ⟨b1, b2⟩ := sent_spread (r := S.r) (now := S.now) (d := S.d) S.e1
    refine ⟨h.r, h.d, h.p, h.ws, h.now, rfl, h.ses, ?_, ?_, ?_, ?_, ?_, ?_⟩
    · simp only [a2, h.r, h.w0]
    · simp only [a1, h.r, h.now, h.d, h.w0, h.y0]
    · simp only [(flat_sent S.r S.now S.d S.e0).2, h.a0]
    · simp only [b2, h.r, h.w1]
    · simp only [b1, h.r, h.now, h.d, h.w1, h.y1]
    · simp only [(flat_sent S.r S.now S.d S.e1).2, h.a1]
  · exact h
theorem rel_arrive {S : Ln} {T : RL} (h : Rel S T) (h0 : Sorted S.e0.way) (h1 : Sorted S.e1.way) : Rel (arrive S) (comeR T) := by
  obtain ⟨a1, a2⟩ := due_spread (n := S.now + 1) h0
  obtain ⟨b1, b2⟩ := due_spread (n := S.now + 1) h1
  refine ⟨h.r, h.d, h.p, h.ws, by simp only [comeR, arrive, h.now], h.up, h.ses, h.w0, ?_, ?_, h.w1, ?_, ?_⟩
  · simp only [comeR, arrive, h.now, h.y0, a2]
  · simp only [comeR, arrive, h.now, h.y1, h.a0, b1]
  · simp only [comeR, arrive, h.now, h.y1, b2]
  · simp only [comeR, arrive, h.now, h.y0, h.a1, a1]
theorem rel_down {S : Ln} {T : RL} (h : Rel S T) : Rel (downS S) (downR T) :=
  ⟨h.r, h.d, h.p, h.ws, h.now, rfl, h.ses, rfl, rfl, h.a0, rfl, rfl, h.a1⟩
theorem rel_minute {S : Ln} {T : RL} (h : Rel S T) (hk : WOk S) (hc : chk S.r S.d S.p S.ws = 0) (hn : 0 ≤ S.now) : Rel (passS S) (minuteR T) := by
  obtain ⟨⟨a1, b1⟩, _, _⟩ := wok_sendAll hk
  have k := rel_arrive (rel_send h) a1 b1
  have e1 : (arrive (sendAll S)).r = S.r := by unfold sendAll; split <;> rfl
  have e2 : (arrive (sendAll S)).d = S.d := by unfold sendAll; split <;> rfl
  have e3 : (arrive (sendAll S)).p = S.p := by unfold sendAll; split <;> rfl
  have e4 : (arrive (sendAll S)).ws = S.ws := by unfold sendAll; split <;> rfl
  have e5 : (arrive (sendAll S)).now = S.now + 1 := by unfold sendAll; split <;> rfl
  unfold passS minuteR
  generalize arrive (sendAll S) = Z at k e1 e2 e3 e4 e5 ⊢
  generalize comeR (sentR T) = U at k ⊢
  unfold turnS turnR
  rw [k.r, k.d, k.p, k.ws, k.now, k.up, connected_eq (by rw [e1, e2, e3, e4]; exact hc) (by omega)]
  repeat' split
  · exact k
  · exact rel_down k
  · exact ⟨k.r, k.d, k.p, k.ws, k.now, rfl, by simp [upR, upS, k.ses], k.w0, k.y0, rfl, k.w1, k.y1, rfl⟩
  · exact k
def minutesR : Nat → RL → RL
  | 0, T => T
  | k + 1, T => minuteR (minutesR k T)
end Go.Lin
