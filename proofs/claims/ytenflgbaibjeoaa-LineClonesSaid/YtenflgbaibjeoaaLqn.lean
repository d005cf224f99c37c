/- Two lines that differ in what is sent at the right side alone. No program. -/
import Derived.Test.YtenflgbaibjeoaaLqk
import Derived.Test.YtenflgbaibjeoaaLnv
namespace Go.Lin
open Go
structure Dir (S Z : Ln) : Prop where
  r : S.r = Z.r
  d : S.d = Z.d
  p : S.p = Z.p
  ws : S.ws = Z.ws
  now : S.now = Z.now
  up : S.up = Z.up
  ses : S.ses = Z.ses
  w : S.e0.wait = Z.e0.wait
  y : S.e0.way = Z.e0.way
  a : S.e1.arr = Z.e1.arr
theorem dir_send {S Z : Ln} (h : Dir S Z) : Dir (sendAll S) (sendAll Z) := by
  unfold sendAll
  rw [h.up]
  split
  · refine ⟨h.r, h.d, h.p, h.ws, h.now, rfl, h.ses, ?_, ?_, ?_⟩
    · simp only [sent, h.w, h.y, h.r, h.now, h.d]; split <;> first | rfl | exact h.w
    · simp only [sent, h.w, h.y, h.r, h.now, h.d]; split <;> first | rfl | exact h.y
    · have e1 : (sent S.r S.now S.d S.e1).arr = S.e1.arr := (flat_sent _ _ _ _).2
      have e2 : (sent Z.r Z.now Z.d Z.e1).arr = Z.e1.arr := (flat_sent _ _ _ _).2
      simp only [e1, e2, h.a]
  · exact h
theorem dir_arrive {S Z : Ln} (h : Dir S Z) : Dir (arrive S) (arrive Z) :=
  ⟨h.r, h.d, h.p, h.ws, by simp [arrive, h.now], h.up, h.ses, h.w, by simp [arrive, h.now, h.y], by simp [arrive, h.now, h.y, h.a]⟩
theorem dir_down {S Z : Ln} (h : Dir S Z) : Dir (downS S) (downS Z) := ⟨h.r, h.d, h.p, h.ws, h.now, rfl, h.ses, rfl, rfl, h.a⟩
theorem dir_pass {S Z : Ln} (h : Dir S Z) : Dir (passS S) (passS Z) := by
  have k := dir_arrive (dir_send h)
  unfold passS
  generalize arrive (sendAll S) = S' at k ⊢
  generalize arrive (sendAll Z) = Z' at k ⊢
  unfold turnS
  rw [k.up, k.p, k.now, k.ws]
  repeat' split
  · exact k
  · exact dir_down k
  · exact ⟨k.r, k.d, k.p, k.ws, k.now, rfl, by simp [upS, k.ses], k.w, k.y, rfl⟩
  · exact k
theorem dir_passN {S Z : Ln} (h : Dir S Z) : ∀ k : Nat, Dir (passN k S) (passN k Z)
  | 0 => h
  | k + 1 => dir_pass (dir_passN h k)
theorem dir_sendE {S Z : Ln} (h : Dir S Z) {s : Int} (hs : s ≠ 1) (n : Nat) : sendE S s n = sendE Z s n := by
  unfold sendE
  rw [h.up, h.w]
  by_cases h0 : s = 0
  · rw [if_pos h0, if_pos h0]
  · rw [if_pos ⟨h0, hs⟩, if_pos ⟨h0, hs⟩]
theorem dir_sendS {S Z : Ln} (h : Dir S Z) {s : Int} (hs : s ≠ 1) (t : List Nat) : Dir (sendS S s t) (sendS Z s t) := by
  unfold sendS
  rw [dir_sendE h hs]
  split
  · rename_i hz
    have h0 : s = 0 := by
      unfold sendE at hz
      by_cases h0 : s = 0
      · exact h0
      · rw [if_pos ⟨h0, hs⟩] at hz; omega
    rw [if_pos h0, if_pos h0]
    exact ⟨h.r, h.d, h.p, h.ws, h.now, h.up, h.ses, by simp [h.w], h.y, h.a⟩
  · exact h
theorem dir_send1 {S Z : Ln} (h : Dir S Z) (t : List Nat) : Dir (sendS S 1 t) Z := by
  unfold sendS
  split
  · exact ⟨h.r, h.d, h.p, h.ws, h.now, h.up, h.ses, h.w, h.y, h.a⟩
  · exact h
theorem dir_recv {S Z : Ln} (h : Dir S Z) (k : Nat) : Dir { S with e1 := { S.e1 with arr := S.e1.arr.drop k } } { Z with e1 := { Z.e1 with arr := Z.e1.arr.drop k } } :=
  ⟨h.r, h.d, h.p, h.ws, h.now, h.up, h.ses, h.w, h.y, by simp [h.a]⟩
/-- A line within its limits, of at most so many bytes. -/
structure Fit (B : Nat) (S : Ln) : Prop where
  ok : Ok S
  dn : Dn S
  sz : Sz B S
theorem Fit.mono {B C : Nat} {S : Ln} (h : Fit B S) (hbc : B ≤ C) : Fit C S := ⟨h.ok, h.dn, Nat.le_trans h.sz.1 hbc, Nat.le_trans h.sz.2 hbc⟩
theorem sendE_zero {S : Ln} {s : Int} {n : Nat} (h : sendE S s n = 0) : S.up = true ∧ (s = 0 ∨ s = 1) ∧ (if s = 0 then S.e0.wait.length else S.e1.wait.length) + n ≤ 1048576 := by
  unfold sendE at h
  by_cases hs : s ≠ 0 ∧ s ≠ 1
  · rw [if_pos hs] at h; omega
  · rw [if_neg hs] at h
    cases hu : S.up with
    | false => rw [if_pos hu] at h; omega
    | true =>
      rw [if_neg (by simp [hu])] at h
      refine ⟨rfl, by omega, ?_⟩
      by_cases hb : 1048576 < (if s = 0 then S.e0.wait.length else S.e1.wait.length) + n
      · rw [if_pos hb] at h; omega
      · omega
theorem fit_send {B : Nat} {S : Ln} (h : Fit B S) (hB : B ≤ 1000000) (s : Int) (t : List Nat) (ht : t.length ≤ 200) : Fit (B + 200) (sendS S s t) := by
  unfold sendS
  split
  · rename_i hz
    obtain ⟨hu, hs, _⟩ := sendE_zero hz
    obtain ⟨z0, z1⟩ := h.sz
    split
    · refine ⟨ok_send0 h.ok h.sz hB (by omega), fun hf => (by rw [hu] at hf; cases hf), ?_, ?_⟩
      · exact Nat.le_trans (show (C0 S).length ≤ B from z0) (by omega)
      · simp only [C1, List.length_append] at z1 ⊢
        omega
    · refine ⟨ok_send1 h.ok h.sz hB (by omega), fun hf => (by rw [hu] at hf; cases hf), ?_, ?_⟩
      · simp only [C0, List.length_append] at z0 ⊢
        omega
      · exact Nat.le_trans (show (C1 S).length ≤ B from z1) (by omega)
  · exact h.mono (by omega)
theorem fit_passN {B : Nat} {S : Ln} (h : Fit B S) (k : Nat) (hk : S.now + k ≤ 10000000) : Fit B (passN k S) :=
  ⟨ok_passN h.ok k hk, (flow_passN h.dn k).2, sz_passN h.dn h.sz k⟩
theorem fit_down {B : Nat} {S : Ln} (h : Fit B S) : Fit B (downS S) := by
  obtain ⟨a, b⟩ := C_down S
  exact ⟨ok_down h.ok, fun _ => ⟨⟨rfl, rfl⟩, rfl, rfl⟩, Nat.le_trans a.length_le h.sz.1, Nat.le_trans b.length_le h.sz.2⟩
theorem fit_recv1 {B : Nat} {S : Ln} (h : Fit B S) (k : Nat) : Fit B { S with e1 := { S.e1 with arr := S.e1.arr.drop k } } := by
  obtain ⟨a, b⟩ := h.sz
  refine ⟨ok_recv k h.ok, h.dn, a, ?_⟩
  simp only [C1, List.length_append, List.length_drop] at b ⊢
  omega
theorem fit_recv0 {B : Nat} {S : Ln} (h : Fit B S) (k : Nat) : Fit B { S with e0 := { S.e0 with arr := S.e0.arr.drop k } } := by
  obtain ⟨a, b⟩ := h.sz
  refine ⟨ok_rcv0 k h.ok, h.dn, ?_, b⟩
  simp only [C0, List.length_append, List.length_drop] at a ⊢
  omega
theorem fit_new {r d p : Int} {ws : List Win} (h : chk r d p ws = 0) : Fit 0 (newS r d p ws) := by
  have hs := str_new (r := r) (d := d) (p := p) (ws := ws)
  exact ⟨ok_new h, hs.dn, hs.sz (B := 0) (by simp) (by simp)⟩
theorem Fit.len {B : Nat} {S : Ln} (h : Fit B S) : S.e0.wait.length ≤ B ∧ S.e1.wait.length ≤ B ∧ wb S.e0.way ≤ B ∧ wb S.e1.way ≤ B ∧ S.e0.arr.length ≤ B ∧ S.e1.arr.length ≤ B := by
  have := h.sz.len
  omega
theorem Dir.rfl' (S : Ln) : Dir S S := ⟨rfl, rfl, rfl, rfl, rfl, rfl, rfl, rfl, rfl, rfl⟩
end Go.Lin
