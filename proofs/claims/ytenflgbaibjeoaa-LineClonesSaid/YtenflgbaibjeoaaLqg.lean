/- A text on a line that is always up: when it has arrived. No program. -/
import Derived.Test.YtenflgbaibjeoaaLno
import Derived.Test.YtenflgbaibjeoaaLnr
namespace Go.Lin
open Go
abbrev Way := List (List Nat × Int)
def flat (w : Way) : List Nat := w.flatMap (·.1)
theorem due_flat (n : Int) : ∀ w : Way, dueL n w ++ flat (restL n w) = flat w
  | [] => rfl
  | (b, m) :: l => by
    have := due_flat n l
    simp only [dueL, restL]
    split
    · simp only [flat, List.flatMap_cons, List.append_assoc] at this ⊢
      rw [this]
    · simp
theorem rest_sub (n : Int) : ∀ w : Way, (restL n w).Sublist w
  | [] => List.Sublist.refl _
  | (b, m) :: l => by
    simp only [restL]
    split
    · exact (rest_sub n l).trans (List.sublist_cons_self _ _)
    · exact List.Sublist.refl _
def Sorted (w : Way) : Prop := w.Pairwise fun x y => x.2 ≤ y.2
theorem rest_late {n : Int} : ∀ {w : Way}, Sorted w → ∀ x ∈ restL n w, n < x.2
  | [], _, x, h => by cases h
  | (b, m) :: l, hs, x, h => by
    have hs2 := List.pairwise_cons.1 hs
    simp only [restL] at h
    split at h
    · exact rest_late hs2.2 x h
    · rename_i hm
      rcases List.mem_cons.1 h with rfl | h
      · simp only; omega
      · have := hs2.1 x h
        simp only at this; omega
theorem rest_keep {n : Int} {x : List Nat × Int} (hx : n < x.2) : ∀ {w : Way}, x ∈ w → x ∈ restL n w
  | (b, m) :: l, h => by
    simp only [restL]
    split
    · rename_i hm
      rcases List.mem_cons.1 h with rfl | h
      · simp only at hx; omega
      · exact rest_keep hx h
    · exact h
def alw : List Win := [(0, 4), (4, 10)]
theorem flat_ge {x : List Nat × Int} : ∀ {w : Way}, x ∈ w → x.1.length ≤ (flat w).length
  | y :: w, h => by
    simp only [flat, List.flatMap_cons, List.length_append]
    rcases List.mem_cons.1 h with rfl | h
    · omega
    · have := flat_ge h
      simp only [flat] at this
      omega
theorem alw_on {n : Int} : conP (phase 10 n) alw = true := by
  have h : phase 10 n = n % 10 := rfl
  rw [h]
  simp only [alw, conP]
  split
  · simp; omega
  · split
    · simp; omega
    · omega
theorem alw_chk {r d : Int} (hr : 1 ≤ r) (hr2 : r ≤ 1048576) (hd : 0 ≤ d) (hd2 : d ≤ 1440) : chk r d 10 alw = 0 := by
  unfold chk
  rw [if_neg (by unfold badC; omega), if_neg (by decide)]
  decide
/-- A text T on its way, R bytes a minute, d minutes long; a was received before. -/
structure Run (T : List Nat) (R d c j : Nat) (a : List Nat) (S : Ln) : Prop where
  r : S.r = R
  dd : S.d = d
  p : S.p = 10
  ws : S.ws = alw
  now : S.now = j
  up : S.up = true
  ses : S.ses = 1
  all : a ++ S.e1.arr ++ flat S.e0.way ++ S.e0.wait = T
  wait : S.e0.wait = T.drop (j * R)
  w1 : S.e1.wait = []
  y1 : S.e1.way = []
  srt : Sorted S.e0.way
  le : ∀ x ∈ S.e0.way, x.2 ≤ (min j c : Nat) + d
  late : ∀ x ∈ S.e0.way, (j : Int) < x.2
  last : c ≤ j → j < c + d → ∃ x ∈ S.e0.way, x.2 = (c + d : Nat) ∧ 0 < x.1.length
theorem run_step {T : List Nat} {R d c j : Nat} {a : List Nat} {S : Ln} (hR : 0 < R) (hc1 : T.length ≤ c * R) (hc2 : ∀ i, i < c → i * R < T.length) (h : Run T R d c j a S) : Run T R d c (j + 1) a (passS S) := by
  obtain ⟨r, dd, p, ws, now, up, ses, e0, e1⟩ := S
  obtain ⟨k1, k2, k3, k4, k5, k6, k7, k8, k9, k10, k11, k12, k13, k14, k15⟩ := h
  simp only at k1 k2 k3 k4 k5 k6 k7 k8 k9 k10 k11 k12 k13 k14 k15
  obtain ⟨wait, way, arr⟩ := e0
  obtain ⟨wait1, way1, arr1⟩ := e1
  simp only at k8 k9 k10 k11 k12 k13 k14 k15
  subst k1 k2 k3 k4 k5 k6 k7 k10 k11
  have hs1 : sent (R : Int) (j : Int) (d : Int) ⟨[], [], arr1⟩ = ⟨[], [], arr1⟩ := by simp [sent]
  have hps : passS ⟨R, d, 10, alw, j, true, 1, ⟨wait, way, arr⟩, ⟨[], [], arr1⟩⟩ = arrive (sendAll ⟨R, d, 10, alw, j, true, 1, ⟨wait, way, arr⟩, ⟨[], [], arr1⟩⟩) := by
    unfold passS turnS
    rw [show (arrive (sendAll ⟨(R : Int), (d : Int), 10, alw, (j : Int), true, 1, ⟨wait, way, arr⟩, ⟨[], [], arr1⟩⟩)).up = true by simp [arrive, sendAll], if_pos rfl]
    rw [show (arrive (sendAll ⟨(R : Int), (d : Int), 10, alw, (j : Int), true, 1, ⟨wait, way, arr⟩, ⟨[], [], arr1⟩⟩)).ws = alw by simp [arrive, sendAll], show (arrive (sendAll ⟨(R : Int), (d : Int), 10, alw, (j : Int), true, 1, ⟨wait, way, arr⟩, ⟨[], [], arr1⟩⟩)).p = 10 by simp [arrive, sendAll], show (arrive (sendAll ⟨(R : Int), (d : Int), 10, alw, (j : Int), true, 1, ⟨wait, way, arr⟩, ⟨[], [], arr1⟩⟩)).now = (j : Int) + 1 by simp [arrive, sendAll]]
    rw [alw_on, if_pos rfl]
  rw [hps]
  have hsa : sendAll ⟨(R : Int), (d : Int), 10, alw, (j : Int), true, 1, ⟨wait, way, arr⟩, ⟨[], [], arr1⟩⟩ = ⟨R, d, 10, alw, j, true, 1, sent R j d ⟨wait, way, arr⟩, ⟨[], [], arr1⟩⟩ := by
    simp only [sendAll, if_true, hs1]
  rw [hsa]
  have hwl : wait.length = T.length - j * R := by rw [k9, List.length_drop]
  have hmul : (j + 1) * R = j * R + R := by rw [Nat.add_mul]; omega
  by_cases hj : j < c
  · have h1 := hc2 j hj
    have hse : sent (R : Int) (j : Int) (d : Int) ⟨wait, way, arr⟩ = ⟨wait.drop R, way ++ [(wait.take R, (j : Int) + 1 + d)], arr⟩ := by
      unfold sent
      rw [if_pos (by simp only; omega)]
      simp
    rw [hse]
    have hmin : min j c = j := by omega
    have hmin' : min (j + 1) c = j + 1 := by omega
    rw [hmin] at k13
    have hsrt : Sorted (way ++ [(wait.take R, (j : Int) + 1 + d)]) := by
      refine List.pairwise_append.2 ⟨k12, List.pairwise_singleton _ _, fun x hx y hy => ?_⟩
      rw [List.mem_singleton.1 hy]
      have := k13 x hx
      simp only; omega
    have hdf := due_flat ((j : Int) + 1) (way ++ [(wait.take R, (j : Int) + 1 + d)])
    have hfl : flat (way ++ [(wait.take R, (j : Int) + 1 + d)]) = flat way ++ wait.take R := by simp [flat]
    rw [hfl] at hdf
    refine ⟨rfl, rfl, rfl, rfl, by simp [arrive], rfl, rfl, ?_, ?_, rfl, rfl, ?_, ?_, ?_, ?_⟩
    · simp only [arrive]
      have e : a ++ (arr1 ++ dueL ((j : Int) + 1) (way ++ [(wait.take R, (j : Int) + 1 + d)])) ++ flat (restL ((j : Int) + 1) (way ++ [(wait.take R, (j : Int) + 1 + d)])) ++ wait.drop R = a ++ arr1 ++ (dueL ((j : Int) + 1) (way ++ [(wait.take R, (j : Int) + 1 + d)]) ++ flat (restL ((j : Int) + 1) (way ++ [(wait.take R, (j : Int) + 1 + d)]))) ++ wait.drop R := by simp
      rw [e, hdf, ← k8]
      simp
    · simp only [arrive]
      rw [k9, List.drop_drop, hmul]
    · exact List.Pairwise.sublist (rest_sub _ _) hsrt
    · intro x hx
      rw [hmin']
      rcases List.mem_append.1 (rest_mem hx) with hx | hx
      · have := k13 x hx; omega
      · rw [List.mem_singleton.1 hx]; simp only; omega
    · intro x hx
      have h5 : (j : Int) + 1 < x.2 := rest_late hsrt x hx
      omega
    · intro hcj hjd
      have hcj' : c = j + 1 := by omega
      refine ⟨(wait.take R, (j : Int) + 1 + d), rest_keep (by simp only; omega) (by simp), by simp only; omega, ?_⟩
      simp only [List.length_take]
      omega
  · have h1 : T.length ≤ j * R := Nat.le_trans hc1 (Nat.mul_le_mul_right _ (by omega))
    have hw0 : wait = [] := List.eq_nil_of_length_eq_zero (by omega)
    subst hw0
    have hse : sent (R : Int) (j : Int) (d : Int) ⟨[], way, arr⟩ = ⟨[], way, arr⟩ := by simp [sent]
    rw [hse]
    have hmin : min j c = c := by omega
    have hmin' : min (j + 1) c = c := by omega
    rw [hmin] at k13
    have hdf := due_flat ((j : Int) + 1) way
    refine ⟨rfl, rfl, rfl, rfl, by simp [arrive], rfl, rfl, ?_, ?_, rfl, rfl, ?_, ?_, ?_, ?_⟩
    · simp only [arrive]
      have e : a ++ (arr1 ++ dueL ((j : Int) + 1) way) ++ flat (restL ((j : Int) + 1) way) ++ [] = a ++ arr1 ++ (dueL ((j : Int) + 1) way ++ flat (restL ((j : Int) + 1) way)) ++ [] := by simp
      rw [e, hdf]
      exact k8
    · simp only [arrive]
      rw [List.drop_of_length_le (by omega)]
    · exact List.Pairwise.sublist (rest_sub _ _) k12
    · intro x hx
      rw [hmin']
      exact k13 x (rest_mem hx)
    · intro x hx
      have h5 : (j : Int) + 1 < x.2 := rest_late k12 x hx
      omega
    · intro hcj hjd
      obtain ⟨x, hx, hx2, hx3⟩ := k15 (by omega) (by omega)
      exact ⟨x, rest_keep (show (j : Int) + 1 < x.2 by omega) hx, hx2, hx3⟩
theorem run_steps {T : List Nat} {R d c j : Nat} {a : List Nat} {S : Ln} (hR : 0 < R) (hc1 : T.length ≤ c * R) (hc2 : ∀ i, i < c → i * R < T.length) (h : Run T R d c j a S) : ∀ k : Nat, Run T R d c (j + k) a (passN k S)
  | 0 => h
  | k + 1 => run_step hR hc1 hc2 (run_steps hR hc1 hc2 h k)
/-- Not before. -/
theorem run_early {T : List Nat} {R d c : Nat} {a : List Nat} {S : Ln} (hc2 : ∀ i, i < c → i * R < T.length) (hc : 0 < c) (h : Run T R d c (c + d - 1) a S) : (a ++ S.e1.arr).length < T.length := by
  have ha := congrArg List.length h.all
  simp only [List.length_append] at ha ⊢
  by_cases hd : d = 0
  · have h1 := congrArg List.length h.wait
    have h2 := hc2 (c - 1) (by omega)
    rw [List.length_drop, hd, Nat.add_zero] at h1
    omega
  · obtain ⟨x, hx, _, hx3⟩ := h.last (by omega) (by omega)
    have := flat_ge hx
    omega
/-- But then. -/
theorem run_done {T : List Nat} {R d c : Nat} {a : List Nat} {S : Ln} (hc1 : T.length ≤ c * R) (h : Run T R d c (c + d) a S) : a ++ S.e1.arr = T := by
  have hw : S.e0.wait = [] := by
    rw [h.wait]
    exact List.drop_of_length_le (Nat.le_trans hc1 (Nat.mul_le_mul_right _ (by omega)))
  have hy : S.e0.way = [] := by
    refine List.eq_nil_iff_forall_not_mem.2 fun x hx => ?_
    have h1 := h.le x hx
    have h2 := h.late x hx
    omega
  have := h.all
  rw [hw, hy] at this
  simpa [flat] using this
/-- The other direction. -/
def swS (S : Ln) : Ln := { S with e0 := S.e1, e1 := S.e0 }
theorem sw_pass (S : Ln) : passS (swS S) = swS (passS S) := by
  have h1 : sendAll (swS S) = swS (sendAll S) := by
    unfold sendAll
    by_cases hu : S.up = true
    · rw [if_pos hu, if_pos (show (swS S).up = true from hu)]; rfl
    · rw [if_neg hu, if_neg (show ¬ (swS S).up = true from hu)]
  have h2 : ∀ S, arrive (swS S) = swS (arrive S) := fun _ => rfl
  have h3 : ∀ S, turnS (swS S) = swS (turnS S) := fun S => by
    unfold turnS
    rw [show (swS S).up = S.up from rfl, show (swS S).p = S.p from rfl, show (swS S).now = S.now from rfl, show (swS S).ws = S.ws from rfl]
    repeat' split
    all_goals rfl
  unfold passS
  rw [h1, h2, h3]
theorem sw_passN (S : Ln) : ∀ k : Nat, passN k (swS S) = swS (passN k S)
  | 0 => rfl
  | k + 1 => by rw [passN, sw_passN S k, sw_pass]; rfl
end Go.Lin
