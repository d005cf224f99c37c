/- What a minute does to a line. No program. -/
import Derived.Test.YtenflgbaibjeoaaMna
namespace Go.Lin
/-- A side: what waits there, what is under way from there (bytes, minute), what has arrived there. -/
structure Sd where
  wait : List Nat
  way : List (List Nat × Int)
  arr : List Nat
/-- A line. -/
structure Ln where
  r : Int
  d : Int
  p : Int
  ws : List Win
  now : Int
  up : Bool
  ses : Int
  e0 : Sd
  e1 : Sd
/-- What a side sends in a minute. -/
def sent (r now d : Int) (E : Sd) : Sd := if 0 < E.wait.length then { E with wait := E.wait.drop r.toNat, way := E.way ++ [(E.wait.take r.toNat, now + 1 + d)] } else E
/-- What is due, and what is not, in order. -/
def dueL (n : Int) : List (List Nat × Int) → List Nat
  | [] => []
  | (b, m) :: l => if m ≤ n then b ++ dueL n l else []
def restL (n : Int) : List (List Nat × Int) → List (List Nat × Int)
  | [] => []
  | (b, m) :: l => if m ≤ n then restL n l else (b, m) :: l
/-- The bytes that are under way. -/
def wb (way : List (List Nat × Int)) : Nat := (way.map fun x => x.1.length).sum
/-- Both sides have sent. -/
def sendAll (S : Ln) : Ln := if S.up then { S with e0 := sent S.r S.now S.d S.e0, e1 := sent S.r S.now S.d S.e1 } else S
/-- The minute has passed, and what is due has arrived. -/
def arrive (S : Ln) : Ln :=
  { S with now := S.now + 1
           e0 := { S.e0 with way := restL (S.now + 1) S.e0.way, arr := S.e0.arr ++ dueL (S.now + 1) S.e1.way }
           e1 := { S.e1 with way := restL (S.now + 1) S.e1.way, arr := S.e1.arr ++ dueL (S.now + 1) S.e0.way } }
def downS (S : Ln) : Ln := { S with up := false, e0 := { S.e0 with wait := [], way := [] }, e1 := { S.e1 with wait := [], way := [] } }
def upS (S : Ln) : Ln := { S with up := true, ses := S.ses + 1, e0 := { S.e0 with arr := [] }, e1 := { S.e1 with arr := [] } }
/-- The line goes down, or comes up. -/
def turnS (S : Ln) : Ln := if S.up then (if conP (phase S.p S.now) S.ws then S else downS S) else (if conP (phase S.p S.now) S.ws then upS S else S)
def passS (S : Ln) : Ln := turnS (arrive (sendAll S))
/-- Not too much. -/
structure Ok (S : Ln) : Prop where
  r1 : 1 ≤ S.r
  r2 : S.r ≤ 1048576
  d1 : 0 ≤ S.d
  d2 : S.d ≤ 1440
  p1 : 0 ≤ S.p
  p2 : S.p ≤ 10000000
  ws : S.ws.length ≤ 32
  now1 : 0 ≤ S.now
  now2 : S.now ≤ 10000000
  ses1 : 0 ≤ S.ses
  ses2 : S.ses ≤ S.now + 1
  n0 : S.e0.wait.length + wb S.e0.way + S.e1.arr.length ≤ 100000000
  n1 : S.e1.wait.length + wb S.e1.way + S.e0.arr.length ≤ 100000000
  w0 : ∀ x ∈ S.e0.way, 0 < x.1.length
  w1 : ∀ x ∈ S.e1.way, 0 < x.1.length
theorem wb_app (a b : List (List Nat × Int)) : wb (a ++ b) = wb a + wb b := by simp [wb]
theorem wb_ge : ∀ {way : List (List Nat × Int)}, (∀ x ∈ way, 0 < x.1.length) → way.length ≤ wb way
  | [], _ => by simp [wb]
  | x :: l, h => by
    have h1 := h x (by simp)
    have h2 := wb_ge (way := l) fun y hy => h y (by simp [hy])
    simp only [wb, List.map_cons, List.sum_cons, List.length_cons] at h2 ⊢
    omega
theorem due_rest (n : Int) : ∀ way : List (List Nat × Int), (dueL n way).length + wb (restL n way) = wb way
  | [] => rfl
  | (b, m) :: l => by
    have := due_rest n l
    simp only [dueL, restL]
    split
    · simp only [List.length_append, wb, List.map_cons, List.sum_cons] at this ⊢
      omega
    · simp
theorem rest_mem {n : Int} : ∀ {way : List (List Nat × Int)} {x : List Nat × Int}, x ∈ restL n way → x ∈ way
  | (b, m) :: l, x, h => by
    simp only [restL] at h
    split at h
    · exact List.mem_cons_of_mem _ (rest_mem h)
    · exact h
theorem sent_size {r now d : Int} (hr : 1 ≤ r) (E : Sd) : (sent r now d E).wait.length + wb (sent r now d E).way = E.wait.length + wb E.way ∧ (sent r now d E).arr = E.arr ∧ ((∀ x ∈ E.way, 0 < x.1.length) → ∀ x ∈ (sent r now d E).way, 0 < x.1.length) := by
  unfold sent
  split
  · refine ⟨?_, rfl, fun h x hx => ?_⟩
    · simp only [wb_app, List.length_drop]
      simp [wb]
      omega
    · rcases List.mem_append.1 hx with hx | hx
      · exact h x hx
      · simp only [List.mem_singleton] at hx
        subst hx
        simp only [List.length_take]
        omega
  · exact ⟨rfl, rfl, fun h => h⟩
theorem ok_send {S : Ln} (h : Ok S) : Ok (sendAll S) := by
  unfold sendAll
  split
  · obtain ⟨a1, a2, a3⟩ := sent_size (now := S.now) (d := S.d) h.r1 S.e0
    obtain ⟨b1, b2, b3⟩ := sent_size (now := S.now) (d := S.d) h.r1 S.e1
    have := h.n0
    have := h.n1
    exact ⟨h.r1, h.r2, h.d1, h.d2, h.p1, h.p2, h.ws, h.now1, h.now2, h.ses1, h.ses2, by simp only [b2]; omega, by simp only [a2]; omega, a3 h.w0, b3 h.w1⟩
  · exact h
theorem ok_arrive {S : Ln} (h : Ok S) (hn : S.now < 10000000) : Ok (arrive S) := by
  have d0 := due_rest (S.now + 1) S.e0.way
  have d1 := due_rest (S.now + 1) S.e1.way
  have := h.n0
  have := h.n1
  have := h.now1
  have := h.ses2
  exact ⟨h.r1, h.r2, h.d1, h.d2, h.p1, h.p2, h.ws, by simp only [arrive]; omega, by simp only [arrive]; omega, h.ses1, by simp only [arrive]; omega,
    by simp only [arrive, List.length_append]; omega, by simp only [arrive, List.length_append]; omega, fun x hx => h.w0 x (rest_mem hx), fun x hx => h.w1 x (rest_mem hx)⟩
theorem ok_down {S : Ln} (h : Ok S) : Ok (downS S) := by
  have := h.n0
  have := h.n1
  exact ⟨h.r1, h.r2, h.d1, h.d2, h.p1, h.p2, h.ws, h.now1, h.now2, h.ses1, h.ses2, by simp [downS, wb]; omega, by simp [downS, wb]; omega, by simp [downS], by simp [downS]⟩
theorem passS_now (S : Ln) : (passS S).now = S.now + 1 := by
  have e1 : (sendAll S).now = S.now := by unfold sendAll; split <;> rfl
  unfold passS turnS downS upS
  repeat' split
  all_goals (show (sendAll S).now + 1 = _; rw [e1])
end Go.Lin
