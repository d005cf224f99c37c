/- What arrives is the beginning of what was sent. No program. -/
import Derived.Test.YtenflgbaibjeoaaLqg
import Derived.Test.YtenflgbaibjeoaaLnh
namespace Go.Lin
open Go
theorem bstr_app (a b : List Nat) : Go.Bul.bstr a ++ Go.Bul.bstr b = Go.Bul.bstr (a ++ b) := by
  apply ByteArray.ext
  simp [Go.Bul.bstr]
theorem bstr_pre {a b : List Nat} (h : a <+: b) : (Go.Bul.bstr b).extract 0 (Go.Bul.bstr a).size = Go.Bul.bstr a := by
  obtain ⟨t, rfl⟩ := h
  rw [← bstr_app, Go.Bul.bstr_size, ← Go.Bul.bstr_size a]
  apply ByteArray.ext
  simp
/-- What is on its way to a side, in order. -/
def C0 (S : Ln) : List Nat := S.e0.arr ++ (flat S.e1.way ++ S.e1.wait)
def C1 (S : Ln) : List Nat := S.e1.arr ++ (flat S.e0.way ++ S.e0.wait)
/-- Nothing waits on a line that is down. -/
def Dn (S : Ln) : Prop := S.up = false → (S.e0.wait = [] ∧ S.e0.way = []) ∧ S.e1.wait = [] ∧ S.e1.way = []
theorem wb_flat (w : Way) : (flat w).length = wb w := by simp [flat, wb, List.length_flatMap]
theorem flat_sent (r now d : Int) (E : Sd) : flat (sent r now d E).way ++ (sent r now d E).wait = flat E.way ++ E.wait ∧ (sent r now d E).arr = E.arr := by
  unfold sent
  split
  · simp [flat]
  · exact ⟨rfl, rfl⟩
theorem C_send (S : Ln) : C0 (sendAll S) = C0 S ∧ C1 (sendAll S) = C1 S := by
  unfold sendAll
  split
  · obtain ⟨a1, a2⟩ := flat_sent S.r S.now S.d S.e0
    obtain ⟨b1, b2⟩ := flat_sent S.r S.now S.d S.e1
    simp only [C0, C1]
    rw [a1, a2, b1, b2]
    exact ⟨rfl, rfl⟩
  · exact ⟨rfl, rfl⟩
theorem C_arrive (S : Ln) : C0 (arrive S) = C0 S ∧ C1 (arrive S) = C1 S := by
  have h0 := due_flat (S.now + 1) S.e0.way
  have h1 := due_flat (S.now + 1) S.e1.way
  simp only [C0, C1, arrive]
  constructor
  · rw [List.append_assoc, ← List.append_assoc (dueL _ _), h1]
  · rw [List.append_assoc, ← List.append_assoc (dueL _ _), h0]
theorem C_down (S : Ln) : C0 (downS S) <+: C0 S ∧ C1 (downS S) <+: C1 S := by
  simp only [C0, C1, downS, flat]
  exact ⟨by simp, by simp⟩
theorem dn_send {S : Ln} (h : Dn S) : Dn (sendAll S) := by
  intro hu
  unfold sendAll at hu ⊢
  split
  · rename_i hup
    rw [if_pos hup] at hu
    simp only at hu
    rw [hup] at hu; cases hu
  · rename_i hup
    rw [if_neg hup] at hu
    exact h hu
theorem dn_arrive {S : Ln} (h : Dn S) : Dn (arrive S) := by
  intro hu
  obtain ⟨⟨h1, h2⟩, h3, h4⟩ := h hu
  simp only [arrive, h1, h2, h3, h4, restL, and_self]
theorem dn_pass {S : Ln} (h : Dn S) : Dn (passS S) := by
  have h1 := dn_arrive (dn_send h)
  unfold passS turnS
  split
  · split
    · exact h1
    · intro _; exact ⟨⟨rfl, rfl⟩, rfl, rfl⟩
  · split
    · intro hu; cases hu
    · exact h1
/-- A minute: the same session, and nothing else than what was on its way; or a new one, and nothing. -/
def Flow (S S' : Ln) : Prop := (S'.ses = S.ses ∧ C0 S' <+: C0 S ∧ C1 S' <+: C1 S ∧ (S'.up = true → S.up = true ∧ C0 S' = C0 S ∧ C1 S' = C1 S)) ∨ (S.ses < S'.ses ∧ C0 S' = [] ∧ C1 S' = [])
theorem flow_pass {S : Ln} (h : Dn S) : Flow S (passS S) := by
  have hd := dn_arrive (dn_send h)
  have hs : (arrive (sendAll S)).ses = S.ses := by unfold sendAll; split <;> rfl
  have hu : (arrive (sendAll S)).up = S.up := by unfold sendAll; split <;> rfl
  have c0 : C0 (arrive (sendAll S)) = C0 S := (C_arrive _).1.trans (C_send S).1
  have c1 : C1 (arrive (sendAll S)) = C1 S := (C_arrive _).2.trans (C_send S).2
  unfold passS
  generalize arrive (sendAll S) = Z at hd hs hu c0 c1 ⊢
  unfold turnS
  split
  · rename_i hup
    split
    · exact .inl ⟨hs, by rw [c0]; exact List.prefix_rfl, by rw [c1]; exact List.prefix_rfl, fun _ => ⟨by rw [← hu]; exact hup, c0, c1⟩⟩
    · obtain ⟨d0, d1⟩ := C_down Z
      exact .inl ⟨hs, by rw [← c0]; exact d0, by rw [← c1]; exact d1, fun h => by cases h⟩
  · rename_i hup
    have hf : Z.up = false := by simpa using hup
    obtain ⟨⟨e1, e2⟩, e3, e4⟩ := hd hf
    split
    · refine .inr ⟨by show S.ses < Z.ses + 1; omega, ?_, ?_⟩
      · simp [C0, upS, e3, e4, flat]
      · simp [C1, upS, e1, e2, flat]
    · exact .inl ⟨hs, by rw [c0]; exact List.prefix_rfl, by rw [c1]; exact List.prefix_rfl, fun h => by rw [hf] at h; cases h⟩
theorem flow_trans {S Z W : Ln} (h : Flow S Z) (k : Flow Z W) : Flow S W := by
  rcases h with ⟨h1, h2, h3, h4⟩ | ⟨h1, h2, h3⟩
  · rcases k with ⟨k1, k2, k3, k4⟩ | ⟨k1, k2, k3⟩
    · exact .inl ⟨k1.trans h1, k2.trans h2, k3.trans h3, fun hu => by
        obtain ⟨a, b, c⟩ := k4 hu
        obtain ⟨a', b', c'⟩ := h4 a
        exact ⟨a', b.trans b', c.trans c'⟩⟩
    · exact .inr ⟨by omega, k2, k3⟩
  · rcases k with ⟨k1, k2, k3, _⟩ | ⟨k1, k2, k3⟩
    · rw [h2] at k2
      rw [h3] at k3
      exact .inr ⟨by omega, List.prefix_nil.1 k2, List.prefix_nil.1 k3⟩
    · exact .inr ⟨by omega, k2, k3⟩
theorem flow_refl (S : Ln) : Flow S S := .inl ⟨rfl, List.prefix_rfl, List.prefix_rfl, fun h => ⟨h, rfl, rfl⟩⟩
theorem flow_passN {S : Ln} (h : Dn S) : ∀ k : Nat, Flow S (passN k S) ∧ Dn (passN k S)
  | 0 => ⟨flow_refl S, h⟩
  | k + 1 => by
    obtain ⟨h1, h2⟩ := flow_passN h k
    exact ⟨flow_trans h1 (flow_pass h2), dn_pass h2⟩
/-- What was sent to the sides in a session, and what was received. -/
structure Str (ses : Int) (T0 T1 G0 G1 : List Nat) (S : Ln) : Prop where
  ses : S.ses = ses
  dn : Dn S
  p0 : (G0 ++ C0 S) <+: T0
  p1 : (G1 ++ C1 S) <+: T1
  eq : S.up = true → G0 ++ C0 S = T0 ∧ G1 ++ C1 S = T1
theorem pre_app {a b c t : List Nat} (h : b <+: c) (k : (a ++ c) <+: t) : (a ++ b) <+: t := ((List.prefix_append_right_inj a).2 h).trans k
theorem str_pass {ses : Int} {T0 T1 G0 G1 : List Nat} {S : Ln} (h : Str ses T0 T1 G0 G1 S) (k : Nat) : Str ses T0 T1 G0 G1 (passN k S) ∨ ((passN k S).ses ≠ ses ∧ Str (passN k S).ses [] [] [] [] (passN k S)) := by
  obtain ⟨f, d⟩ := flow_passN h.dn k
  rcases f with ⟨f1, f2, f3, f4⟩ | ⟨f1, f2, f3⟩
  · exact .inl ⟨f1.trans h.ses, d, pre_app f2 h.p0, pre_app f3 h.p1, fun hu => by
      obtain ⟨a, b, c⟩ := f4 hu
      rw [b, c]
      exact h.eq a⟩
  · have hs := h.ses
    exact .inr ⟨by omega, rfl, d, by rw [f2]; exact List.prefix_rfl, by rw [f3]; exact List.prefix_rfl, fun _ => by rw [f2, f3]; exact ⟨rfl, rfl⟩⟩
theorem str_down {ses : Int} {T0 T1 G0 G1 : List Nat} {S : Ln} (h : Str ses T0 T1 G0 G1 S) : Str ses T0 T1 G0 G1 (downS S) := by
  obtain ⟨d0, d1⟩ := C_down S
  exact ⟨h.ses, fun _ => ⟨⟨rfl, rfl⟩, rfl, rfl⟩, pre_app d0 h.p0, pre_app d1 h.p1, fun hu => by cases hu⟩
theorem str_send0 {ses : Int} {T0 T1 G0 G1 t : List Nat} {S : Ln} (h : Str ses T0 T1 G0 G1 S) (hu : S.up = true) : Str ses T0 (T1 ++ t) G0 G1 { S with e0 := { S.e0 with wait := S.e0.wait ++ t } } := by
  obtain ⟨e0, e1⟩ := h.eq hu
  have hc : G1 ++ C1 { S with e0 := { S.e0 with wait := S.e0.wait ++ t } } = T1 ++ t := by rw [← e1]; simp [C1]
  have h0 : C0 { S with e0 := { S.e0 with wait := S.e0.wait ++ t } } = C0 S := rfl
  exact ⟨h.ses, fun hf => (by rw [hu] at hf; cases hf), by rw [h0]; exact h.p0, by rw [hc]; exact List.prefix_rfl, fun _ => ⟨by rw [h0]; exact e0, hc⟩⟩
theorem str_send1 {ses : Int} {T0 T1 G0 G1 t : List Nat} {S : Ln} (h : Str ses T0 T1 G0 G1 S) (hu : S.up = true) : Str ses (T0 ++ t) T1 G0 G1 { S with e1 := { S.e1 with wait := S.e1.wait ++ t } } := by
  obtain ⟨e0, e1⟩ := h.eq hu
  have hc : G0 ++ C0 { S with e1 := { S.e1 with wait := S.e1.wait ++ t } } = T0 ++ t := by rw [← e0]; simp [C0]
  have h0 : C1 { S with e1 := { S.e1 with wait := S.e1.wait ++ t } } = C1 S := rfl
  exact ⟨h.ses, fun hf => (by rw [hu] at hf; cases hf), by rw [hc]; exact List.prefix_rfl, by rw [h0]; exact h.p1, fun _ => ⟨hc, by rw [h0]; exact e1⟩⟩
theorem str_recv0 {ses : Int} {T0 T1 G0 G1 : List Nat} {S : Ln} (k : Nat) (h : Str ses T0 T1 G0 G1 S) : Str ses T0 T1 (G0 ++ S.e0.arr.take k) G1 { S with e0 := { S.e0 with arr := S.e0.arr.drop k } } ∧ (G0 ++ S.e0.arr.take k) <+: T0 := by
  have hc : (G0 ++ S.e0.arr.take k) ++ C0 { S with e0 := { S.e0 with arr := S.e0.arr.drop k } } = G0 ++ C0 S := by
    simp only [C0]
    rw [List.append_assoc, ← List.append_assoc (List.take k _), List.take_append_drop]
  have h0 : C1 { S with e0 := { S.e0 with arr := S.e0.arr.drop k } } = C1 S := rfl
  exact ⟨⟨h.ses, h.dn, by rw [hc]; exact h.p0, by rw [h0]; exact h.p1, fun hu => by rw [hc, h0]; exact h.eq hu⟩, (List.prefix_append _ _).trans (by rw [hc]; exact h.p0)⟩
theorem str_recv1 {ses : Int} {T0 T1 G0 G1 : List Nat} {S : Ln} (k : Nat) (h : Str ses T0 T1 G0 G1 S) : Str ses T0 T1 G0 (G1 ++ S.e1.arr.take k) { S with e1 := { S.e1 with arr := S.e1.arr.drop k } } ∧ (G1 ++ S.e1.arr.take k) <+: T1 := by
  have hc : (G1 ++ S.e1.arr.take k) ++ C1 { S with e1 := { S.e1 with arr := S.e1.arr.drop k } } = G1 ++ C1 S := by
    simp only [C1]
    rw [List.append_assoc, ← List.append_assoc (List.take k _), List.take_append_drop]
  have h0 : C0 { S with e1 := { S.e1 with arr := S.e1.arr.drop k } } = C0 S := rfl
  exact ⟨⟨h.ses, h.dn, by rw [h0]; exact h.p0, by rw [hc]; exact h.p1, fun hu => by rw [hc, h0]; exact h.eq hu⟩, (List.prefix_append _ _).trans (by rw [hc]; exact h.p1)⟩
/-- So much is on the line. -/
def Sz (B : Nat) (S : Ln) : Prop := (C0 S).length ≤ B ∧ (C1 S).length ≤ B
theorem Str.sz {ses : Int} {T0 T1 G0 G1 : List Nat} {S : Ln} (h : Str ses T0 T1 G0 G1 S) {B : Nat} (h0 : T0.length ≤ B) (h1 : T1.length ≤ B) : Sz B S := by
  have a := h.p0.length_le
  have b := h.p1.length_le
  rw [List.length_append] at a b
  exact ⟨by omega, by omega⟩
theorem Sz.len {B : Nat} {S : Ln} (h : Sz B S) : (S.e0.wait.length + wb S.e0.way + S.e1.arr.length ≤ B ∧ S.e1.wait.length + wb S.e1.way + S.e0.arr.length ≤ B) := by
  obtain ⟨a, b⟩ := h
  simp only [C0, C1, List.length_append, wb_flat] at a b
  omega
theorem sz_passN {B : Nat} {S : Ln} (hd : Dn S) (h : Sz B S) (k : Nat) : Sz B (passN k S) := by
  rcases (flow_passN hd k).1 with ⟨_, a, b, _⟩ | ⟨_, a, b⟩
  · exact ⟨Nat.le_trans a.length_le h.1, Nat.le_trans b.length_le h.2⟩
  · unfold Sz; rw [a, b]; simp
theorem ok_send0 {S : Ln} {B : Nat} {t : List Nat} (h : Ok S) (hs : Sz B S) (hB : B ≤ 1000000) (ht : t.length ≤ 1000000) : Ok { S with e0 := { S.e0 with wait := S.e0.wait ++ t } } := by
  have := hs.len
  exact ⟨h.r1, h.r2, h.d1, h.d2, h.p1, h.p2, h.ws, h.now1, h.now2, h.ses1, h.ses2, by simp only [List.length_append]; omega, h.n1, h.w0, h.w1⟩
theorem ok_send1 {S : Ln} {B : Nat} {t : List Nat} (h : Ok S) (hs : Sz B S) (hB : B ≤ 1000000) (ht : t.length ≤ 1000000) : Ok { S with e1 := { S.e1 with wait := S.e1.wait ++ t } } := by
  have := hs.len
  exact ⟨h.r1, h.r2, h.d1, h.d2, h.p1, h.p2, h.ws, h.now1, h.now2, h.ses1, h.ses2, h.n0, by simp only [List.length_append]; omega, h.w0, h.w1⟩
theorem ok_rcv0 {S : Ln} (k : Nat) (h : Ok S) : Ok { S with e0 := { S.e0 with arr := S.e0.arr.drop k } } := by
  have := h.n1
  exact ⟨h.r1, h.r2, h.d1, h.d2, h.p1, h.p2, h.ws, h.now1, h.now2, h.ses1, h.ses2, h.n0, by simp only [List.length_drop]; omega, h.w0, h.w1⟩
theorem str_new {r d p : Int} {ws : List Win} : Str (newS r d p ws).ses [] [] [] [] (newS r d p ws) := by
  unfold newS
  split
  · exact ⟨rfl, fun h => (by cases h), by simp [C0, flat], by simp [C1, flat], fun _ => by simp [C0, C1, flat]⟩
  · exact ⟨rfl, fun _ => ⟨⟨rfl, rfl⟩, rfl, rfl⟩, by simp [C0, flat], by simp [C1, flat], fun _ => by simp [C0, C1, flat]⟩
end Go.Lin
