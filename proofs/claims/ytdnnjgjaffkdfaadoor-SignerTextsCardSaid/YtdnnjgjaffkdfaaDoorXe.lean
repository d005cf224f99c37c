/- Public and secret keys: equality, literals. Base64, plain: the way back. Base64: the closures of Decode. -/
import Derived.Test.YtdnnjgjaffkdfaaDoorWc
import Derived.Test.YtdnnjgjaffkdfaaDoorWh
namespace Go.Bul
open Go Go.RowKit Go.Thg
theorem run_part_one {P : Program} {ty : TypeId} (hty : OneTy P ty) {cs : Array Value} {v : Value} {off : Nat} (hv : cs[off]? = some v) (w : World) : (part ty cs off).run P w = .ok v w := by
  obtain ⟨d, hu, hd, _⟩ := hty.ex
  simp only [part, Sem.run_bind, run_isAgg_no hu hd, Result.andThen_ok, Bool.false_eq_true, if_false, hv, Sem.run_pure]
theorem eqFields_cons {P : Program} {d : Nat} {xs ys : Array Value} {f : Field} {fs : List Field} {a b : Value} {r q : Bool} {w : World} (hn : f.name ≠ "_") (ha : (part f.type xs f.offset).run P w = .ok a w) (hb : (part f.type ys f.offset).run P w = .ok b w) (hr : (Op.equalIn d f.type a b).run P w = .ok r w)
    (hq : (Op.eqFields d xs ys fs).run P w = .ok q w) : (Op.eqFields d xs ys (f :: fs)).run P w = .ok (r && q) w := by
  simp only [Op.eqFields, hn, ne_eq, not_false_eq_true, if_true, Sem.run_bind, ha, hb, hr, Result.andThen_ok]
  cases r
  · simp [Sem.run_pure]
  · simpa using hq
theorem run_part_row {P : Program} {ty : TypeId} {m : Nat} (hty : RowTy P ty m) {cs X : Array Value} {off : Nat} (hX : cs.extract off (off + m) = X) (w : World) : (part ty cs off).run P w = .ok (.agg X) w := by
  obtain ⟨d, hu, hd, hi⟩ := hty.ex
  simp only [part, Sem.run_bind, run_isAgg hu hd, run_sizeOf hi, Result.andThen_ok, if_true, hX, Sem.run_pure]
end Go.Bul
namespace Go.Proofs.YtdnnjgjaffkdfaaDoor
open Go Go.RowKit Go.Bul Go.Thg Go.Lin
theorem eq_16d (d : Nat) (x y : Nd) (W : World) : (Op.equalIn (d + 2) 22 (.agg (ndC x)) (.agg (ndC y))).run Tryd.prog W = .ok (decide (x = y)) W := by
  have h := run_equalIn_nums W d x.val y.val Tryd.underlying22 Tryd.underlying5 (by kernel_rfl) x.len y.len
  have e : (x.val == y.val) = decide (x = y) := by
    by_cases hxy : x = y
    · subst hxy; simp
    · simp only [hxy, decide_false, beq_eq_false_iff_ne]
      exact fun h => hxy (Nd.ext' h)
  rw [e] at h
  exact h
theorem eq_pub (h h' : Int) (r r' : Nd) (W : World) :
    (Op.equalIn 10000 30 (.agg (pubC h r)) (.agg (pubC h' r'))).run Tryd.prog W = .ok (h == h' && decide (r = r')) W := by
  have eI : ∀ (a b : Int), (Op.equalIn 9999 3 (.int .i64 a) (.int .i64 b)).run Tryd.prog W = .ok (a == b) W := fun a b => run_equalIn_int W 9998 3 .i64 .i64 a b Tryd.underlying3
  rw [run_equalIn_struct W 9999 30 _ _ (by kernel_rfl) (by kernel_rfl)]
  simp only [Program.fieldsOf, Tryd.underlying30]
  rw [show (h == h' && decide (r = r')) = (h == h' && (decide (r = r') && true)) by simp]
  exact eqFields_cons (by decide) (run_part_one (P := Tryd.prog) one_int (pubC_0 h r) W) (run_part_one (P := Tryd.prog) one_int (pubC_0 h' r') W) (eI _ _)
    (eqFields_cons (by decide) (run_part_row (P := Tryd.prog) row_a16 (pubC_r h r) W) (run_part_row (P := Tryd.prog) row_a16 (pubC_r h' r') W) (eq_16d 9997 r r' W) (by simp [Op.eqFields, Sem.run_pure]))
section
variable {w : World} {ops : Array Oper} {rest : List Oper} {o : Oper} {a : Act} {Q : Exit → Act → World → Prop} {x0 x1 : Operand} {h : Int} {s : Sd}
end
end Go.Proofs.YtdnnjgjaffkdfaaDoor
namespace Go.Lin
open Go Go.Bul
/-- The value of a letter. -/
def valN (c : Nat) : Option Nat := alL.idxOf? c
theorem valN_alf' : ∀ i : Fin 64, valN (alf i.val) = some i.val := by decide +kernel
theorem valN_alf {i : Nat} (h : i < 64) : valN (alf i) = some i := valN_alf' ⟨i, h⟩
theorem valN_all : ∀ c : Fin 256, ((valN c.val).all fun v => decide (v < 64) && alf v == c.val) = true := by decide +kernel
theorem valN_lt {c v : Nat} (hc : c < 256) (h : valN c = some v) : v < 64 ∧ alf v = c := by
  have := valN_all ⟨c, hc⟩
  simp only [h, Option.all_some, Bool.and_eq_true, decide_eq_true_eq, beq_iff_eq] at this
  exact this
theorem alf_ne' : ∀ i : Fin 64, alf i.val ≠ 61 := by decide +kernel
theorem alf_ne {i : Nat} (h : i < 64) : alf i ≠ 61 := alf_ne' ⟨i, h⟩
theorem alf_lt' : ∀ i : Fin 64, alf i.val < 256 := by decide +kernel
theorem alf_lt {i : Nat} (h : i < 64) : alf i < 256 := alf_lt' ⟨i, h⟩
/-- The bytes that some bits give (at most one); what is left. -/
def emit8 (b c : Nat) : List Nat := if 8 ≤ c then [b / 2 ^ (c - 8)] else []
def rem8 (b c : Nat) : Nat × Nat := if 8 ≤ c then (b % 2 ^ (c - 8), c - 8) else (b, c)
theorem emit8_yes {b c : Nat} : emit8 b (c + 8) = [b / 2 ^ c] := by unfold emit8; rw [if_pos (by omega), Nat.add_sub_cancel]
theorem emit8_no {b c : Nat} (h : ¬ 8 ≤ c) : emit8 b c = [] := by unfold emit8; rw [if_neg h]
theorem rem8_yes {b c : Nat} : rem8 b (c + 8) = (b % 2 ^ c, c) := by unfold rem8; rw [if_pos (by omega), Nat.add_sub_cancel]
theorem rem8_no {b c : Nat} (h : ¬ 8 ≤ c) : rem8 b c = (b, c) := by unfold rem8; rw [if_neg h]
/-- What Decode has after some groups: the bytes so far and what is left. -/
def decS (b c : Nat) : List Nat → List Nat × Nat × Nat
  | [] => ([], b, c)
  | x :: xs => (emit8 (b * 64 + x) (c + 6) ++ (decS (rem8 (b * 64 + x) (c + 6)).1 (rem8 (b * 64 + x) (c + 6)).2 xs).1, (decS (rem8 (b * 64 + x) (c + 6)).1 (rem8 (b * 64 + x) (c + 6)).2 xs).2)
theorem decS_append (xs ys : List Nat) : ∀ b c, decS b c (xs ++ ys) = ((decS b c xs).1 ++ (decS (decS b c xs).2.1 (decS b c xs).2.2 ys).1, (decS (decS b c xs).2.1 (decS b c xs).2.2 ys).2) := by
  induction xs with
  | nil => intro b c; simp [decS]
  | cons x xs ih => intro b c; simp [decS, ih]
theorem decS_one (b c y : Nat) : decS b c [y] = (emit8 (b * 64 + y) (c + 6), rem8 (b * 64 + y) (c + 6)) := by simp [decS]
theorem rem8_ok {b c : Nat} (hc : c < 16) (h : b < 2 ^ c) : (rem8 b c).1 < 2 ^ (rem8 b c).2 ∧ (rem8 b c).2 < 8 ∧ (rem8 b c).2 % 2 = c % 2 ∧ (emit8 b c).length + (rem8 b c).2 ≤ c ∧ ∀ x ∈ emit8 b c, x < 256 := by
  by_cases h8 : 8 ≤ c
  · obtain ⟨d, rfl⟩ : ∃ d, c = d + 8 := ⟨c - 8, by omega⟩
    rw [emit8_yes, rem8_yes]
    refine ⟨Nat.mod_lt _ (Nat.pow_pos (by decide)), by omega, by simp only; omega, by simp only [List.length_singleton]; omega, fun x hx => ?_⟩
    obtain rfl := List.mem_singleton.1 hx
    refine Nat.div_lt_of_lt_mul ?_
    rw [Nat.pow_add] at h
    omega
  · rw [emit8_no h8, rem8_no h8]
    exact ⟨h, by simp only; omega, rfl, by simp, fun x hx => by cases hx⟩
theorem decS_ok (xs : List Nat) : ∀ b c, c < 8 → b < 2 ^ c → (∀ x ∈ xs, x < 64) → c % 2 = 0 → (decS b c xs).2.1 < 2 ^ (decS b c xs).2.2 ∧ (decS b c xs).2.2 < 8 ∧ (decS b c xs).2.2 % 2 = 0 ∧ (decS b c xs).1.length ≤ xs.length ∧ Bytes (decS b c xs).1 := by
  induction xs with
  | nil => intro b c hc hb _ h2; exact ⟨hb, hc, h2, Nat.le_refl _, fun x hx => by cases hx⟩
  | cons x xs ih =>
    intro b c hc hb hy h2
    have hx : x < 64 := hy x (List.Mem.head _)
    have h3 : b * 64 + x < 2 ^ (c + 6) := by rw [Nat.pow_add]; omega
    obtain ⟨r1, r2, r3, r4, r5⟩ := rem8_ok (by omega) h3
    obtain ⟨i1, i2, i3, i4, i5⟩ := ih (rem8 (b * 64 + x) (c + 6)).1 (rem8 (b * 64 + x) (c + 6)).2 (by omega) r1 (fun z hz => hy z (List.Mem.tail _ hz)) (by omega)
    refine ⟨i1, i2, i3, ?_, ?_⟩
    · have h9 : (emit8 (b * 64 + x) (c + 6)).length ≤ 1 := by unfold emit8; split <;> simp
      simp only [decS, List.length_append, List.length_cons]
      omega
    · intro y hy
      rcases List.mem_append.1 hy with hy | hy
      · exact r5 y hy
      · exact i5 y hy
/-- Number of the characters ahead of those = that are in place. -/
def dataN (t : List Nat) : Nat := if t.length = 0 ∨ t.length % 4 ≠ 0 ∨ t.getD (t.length - 1) 0 ≠ 61 then t.length else if t.getD (t.length - 2) 0 = 61 then t.length - 2 else t.length - 1
theorem dataN_le (t : List Nat) : dataN t ≤ t.length := by
  unfold dataN
  split
  · omega
  · split <;> omega
def decV (t : List Nat) : List Nat := (t.take (dataN t)).filterMap valN
def decBad (t : List Nat) : Bool := (t.take (dataN t)).any fun c => (valN c).isNone
def decE (t : List Nat) : Nat := if decBad t = true then 6 else if t.length % 4 ≠ 0 then 4 else if (decS 0 0 (decV t)).2.1 ≠ 0 then 3 else 0
def decB (t : List Nat) : List Nat := if decE t = 0 then (decS 0 0 (decV t)).1 else []
theorem filterMap_lt {t : List Nat} (hB : Bytes t) : ∀ x ∈ t.filterMap valN, x < 64 := by
  intro x hx
  obtain ⟨c, hc, he⟩ := List.mem_filterMap.1 hx
  exact (valN_lt (hB c hc) he).1
theorem decB_bytes {t : List Nat} (hB : Bytes t) : Bytes (decB t) := by
  unfold decB
  split
  · exact (decS_ok _ 0 0 (by decide) (by decide) (filterMap_lt fun x hx => hB x (List.take_subset _ _ hx)) rfl).2.2.2.2
  · intro x hx; cases hx
/-- Decoding what encoding gives. -/
def pendB (c x : Nat) : List Nat := if c = 0 then [] else [x]
theorem decS_encO (xs : List Nat) (hB : Bytes xs) : ∀ b c b' c', (c = 0 ∧ c' = 0 ∧ b = 0 ∧ b' = 0) ∨ (c = 2 ∧ c' = 6 ∧ b < 4 ∧ b' < 64) ∨ (c = 4 ∧ c' = 4 ∧ b < 16 ∧ b' < 16) → (decS b' c' (encO b c xs)).1 = pendB c (b' * 2 ^ c + b) ++ xs ∧ (decS b' c' (encO b c xs)).2.1 = 0 := by
  induction xs with
  | nil =>
    intro b c b' c' h
    rcases h with ⟨rfl, rfl, rfl, rfl⟩ | ⟨rfl, rfl, h1, h2⟩ | ⟨rfl, rfl, h1, h2⟩
    · exact ⟨rfl, rfl⟩
    · simp only [encO, Nat.reduceLT, if_true, decS_one, pendB, emit8, rem8, Nat.reduceAdd, Nat.reduceLeDiff, Nat.reduceSub, Nat.reducePow, Nat.reduceEqDiff, if_false, List.append_nil]
      exact ⟨by rw [show (b' * 64 + b * 16) / 16 = b' * 4 + b by omega], by omega⟩
    · simp only [encO, Nat.reduceLT, if_true, decS_one, pendB, emit8, rem8, Nat.reduceAdd, Nat.reduceLeDiff, Nat.reduceSub, Nat.reducePow, Nat.reduceEqDiff, if_false, List.append_nil]
      exact ⟨by rw [show (b' * 64 + b * 4) / 4 = b' * 16 + b by omega], by omega⟩
  | cons x xs ih =>
    intro b c b' c' h
    have hx : x < 256 := hB x (List.Mem.head _)
    have ih := ih fun z hz => hB z (List.Mem.tail _ hz)
    rcases h with ⟨rfl, rfl, rfl, rfl⟩ | ⟨rfl, rfl, h1, h2⟩ | ⟨rfl, rfl, h1, h2⟩
    · have e1 : emitL (0 * 256 + x) (0 + 8) = [x / 4] := by rw [emitL_yes (by omega), emitL_no (by omega)]; simp
      have e2 : remB (0 * 256 + x) (0 + 8) = (x % 4, 2) := by rw [remB_yes (by omega), remB_no (by omega)]; simp
      obtain ⟨i1, i2⟩ := ih (x % 4) 2 (x / 4) 6 (.inr (.inl ⟨rfl, rfl, by omega, by omega⟩))
      rw [encO, e1, e2, decS_append, decS_one]
      simp only [emit8, rem8, Nat.reduceLeDiff, if_false, Nat.zero_mul, Nat.zero_add, List.nil_append]
      refine ⟨?_, i2⟩
      rw [i1]
      simp only [pendB, Nat.reduceEqDiff, if_false, if_true, List.nil_append, List.cons_append, Nat.reducePow]
      rw [show x / 4 * 4 + x % 4 = x by omega]
    · have e1 : emitL (b * 256 + x) (2 + 8) = [b * 16 + x / 16] := by
        rw [emitL_yes (by omega), emitL_no (by omega)]
        simp only [Nat.reduceAdd, Nat.reduceSub, Nat.reducePow]
        rw [show (b * 256 + x) / 16 = b * 16 + x / 16 by omega]
      have e2 : remB (b * 256 + x) (2 + 8) = (x % 16, 4) := by
        rw [remB_yes (by omega), remB_no (by omega)]
        simp only [Nat.reduceAdd, Nat.reduceSub, Nat.reducePow]
        rw [show (b * 256 + x) % 16 = x % 16 by omega]
      obtain ⟨i1, i2⟩ := ih (x % 16) 4 (x / 16) 4 (.inr (.inr ⟨rfl, rfl, by omega, by omega⟩))
      rw [encO, e1, e2, decS_append, decS_one]
      simp only [emit8, rem8, Nat.reduceAdd, Nat.reduceLeDiff, if_true, Nat.reduceSub, Nat.reducePow]
      rw [show (b' * 64 + (b * 16 + x / 16)) / 16 = b' * 4 + b by omega, show (b' * 64 + (b * 16 + x / 16)) % 16 = x / 16 by omega]
      refine ⟨?_, i2⟩
      rw [i1]
      simp only [pendB, Nat.reduceEqDiff, if_false, List.cons_append, List.nil_append, Nat.reducePow]
      rw [show x / 16 * 16 + x % 16 = x by omega]
    · have e1 : emitL (b * 256 + x) (4 + 8) = [b * 4 + x / 64, x % 64] := by
        rw [emitL_yes (by omega), emitL_yes (by omega), emitL_no (by omega)]
        simp only [Nat.reduceAdd, Nat.reduceSub, Nat.reducePow, Nat.div_one]
        rw [show (b * 256 + x) / 64 = b * 4 + x / 64 by omega, show (b * 256 + x) % 64 = x % 64 by omega]
      have e2 : remB (b * 256 + x) (4 + 8) = (0, 0) := by
        rw [remB_yes (by omega), remB_yes (by omega), remB_no (by omega)]
        simp [Nat.mod_one]
      obtain ⟨i1, i2⟩ := ih 0 0 0 0 (.inl ⟨rfl, rfl, rfl, rfl⟩)
      rw [encO, e1, e2, decS_append, show ([b * 4 + x / 64, x % 64] : List Nat) = [b * 4 + x / 64] ++ [x % 64] from rfl, decS_append, decS_one, decS_one]
      simp only [emit8, rem8, Nat.reduceAdd, Nat.reduceLeDiff, if_true, Nat.reduceSub, Nat.reducePow, Nat.mod_one, Nat.div_one]
      rw [show (b' * 64 + (b * 4 + x / 64)) / 4 = b' * 16 + b by omega, show (b' * 64 + (b * 4 + x / 64)) % 4 = x / 64 by omega, show x / 64 * 64 + x % 64 = x by omega]
      refine ⟨?_, i2⟩
      rw [i1]
      simp only [pendB, Nat.reduceEqDiff, if_false, if_true, List.cons_append, List.nil_append, Nat.reducePow]
theorem encO_lt (xs : List Nat) : ∀ b c, c < 6 → b < 2 ^ c → Bytes xs → c % 2 = 0 → ∀ x ∈ encO b c xs, x < 64 := by
  have hem : ∀ (c b : Nat), b < 2 ^ c → ∀ x ∈ emitL b c, x < 64 := by
    intro c
    induction c using Nat.strongRecOn with
    | ind c ih =>
      intro b hb x hx
      by_cases h : 6 ≤ c
      · rw [emitL_yes h] at hx
        rcases List.mem_cons.1 hx with rfl | hx
        · refine Nat.div_lt_of_lt_mul ?_
          rw [show (64 : Nat) = 2 ^ 6 by rfl, ← Nat.pow_add, Nat.sub_add_cancel h]
          exact hb
        · exact ih (c - 6) (by omega) _ (Nat.mod_lt _ (Nat.pow_pos (by decide))) x hx
      · rw [emitL_no h] at hx
        cases hx
  induction xs with
  | nil =>
    intro b c hc hb _ h2 x hx
    unfold encO at hx
    split at hx
    · obtain rfl := List.mem_singleton.1 hx
      have : 2 ^ c * 2 ^ (6 - c) = 64 := by rw [← Nat.pow_add, show c + (6 - c) = 6 by omega]
      have h3 : b * 2 ^ (6 - c) < 2 ^ c * 2 ^ (6 - c) := Nat.mul_lt_mul_of_pos_right hb (Nat.pow_pos (by decide))
      omega
    · cases hx
  | cons y ys ih =>
    intro b c hc hb hB h2 x hx
    have hy : y < 256 := hB y (List.Mem.head _)
    have h3 : b * 256 + y < 2 ^ (c + 8) := by rw [Nat.pow_add]; omega
    have h4 := remB_2 (c + 8) (b * 256 + y)
    have h5 := remB_lt (c + 8) _ h3
    rw [← h4] at h5
    rw [encO] at hx
    rcases List.mem_append.1 hx with hx | hx
    · exact hem _ _ h3 x hx
    · exact ih _ _ (by omega) h5 (fun z hz => hB z (List.Mem.tail _ hz)) (by omega) x hx
theorem take_drop_pad {a : List Nat} {p : Nat} (hl : (a.length + p) % 4 = 0) (hp : p < 3) (ha : ∀ x ∈ a, x ≠ 61) : dataN (a ++ List.replicate p 61) = a.length := by
  have hlen : (a ++ List.replicate p 61).length = a.length + p := by simp
  have hget : ∀ j, j < a.length → (a ++ List.replicate p 61).getD j 0 ≠ 61 := fun j hj => by
    rw [List.getD_eq_getElem?_getD, List.getElem?_append_left hj, List.getElem?_eq_getElem hj]
    exact ha _ (List.getElem_mem _)
  have hpad : ∀ j, a.length ≤ j → j < a.length + p → (a ++ List.replicate p 61).getD j 0 = 61 := fun j h1 h2 => by
    rw [List.getD_eq_getElem?_getD, List.getElem?_append_right h1, List.getElem?_replicate, if_pos (by omega)]
    rfl
  unfold dataN
  rw [hlen]
  rcases Nat.eq_zero_or_pos p with rfl | hp0
  · by_cases h0 : a.length = 0
    · rw [if_pos (.inl (by omega))]
      omega
    · rw [if_pos (.inr (.inr (hget _ (by omega))))]
      omega
  · rw [if_neg (fun h => h.elim (fun h => by omega) fun h => h.elim (fun h => by omega) fun h => h (hpad _ (by omega) (by omega)))]
    by_cases h2 : p = 2
    · rw [if_pos (hpad _ (by omega) (by omega))]
      omega
    · obtain rfl : p = 1 := by omega
      rw [if_neg (hget _ (by omega))]
      omega
theorem encT_ne (bs : List Nat) (hB : Bytes bs) : (∀ x ∈ (encO 0 0 bs).map alf, x ≠ 61) ∧ dataN (encT bs) = (encO 0 0 bs).length := by
  have h1 : ∀ x ∈ (encO 0 0 bs).map alf, x ≠ 61 := fun x hx => by
    obtain ⟨y, hy, rfl⟩ := List.mem_map.1 hx
    exact alf_ne (encO_lt bs 0 0 (by decide) (by decide) hB rfl y hy)
  have h2 := encO_length bs 0 0 (by decide)
  refine ⟨h1, ?_⟩
  unfold encT
  rw [take_drop_pad (by unfold padN; rw [List.length_map]; omega) (by unfold padN; omega) h1, List.length_map]
theorem filterMap_alf {l : List Nat} (h : ∀ x ∈ l, x < 64) : (l.map alf).filterMap valN = l := by
  induction l with
  | nil => rfl
  | cons x l ih =>
    rw [List.map_cons, List.filterMap_cons_some (valN_alf (h x (List.Mem.head _))), ih fun y hy => h y (List.Mem.tail _ hy)]
theorem dec_enc (bs : List Nat) (hB : Bytes bs) : decE (encT bs) = 0 ∧ decB (encT bs) = bs := by
  obtain ⟨_, hd⟩ := encT_ne bs hB
  have h64 := encO_lt bs 0 0 (by decide) (by decide) hB rfl
  have ht : (encT bs).take (dataN (encT bs)) = (encO 0 0 bs).map alf := by
    rw [hd]
    unfold encT
    rw [List.take_append_of_le_length (by rw [List.length_map]; exact Nat.le_refl _), List.take_of_length_le (by rw [List.length_map]; exact Nat.le_refl _)]
  have hv : decV (encT bs) = encO 0 0 bs := by unfold decV; rw [ht, filterMap_alf h64]
  obtain ⟨r1, r2⟩ := decS_encO bs hB 0 0 0 0 (.inl ⟨rfl, rfl, rfl, rfl⟩)
  have hbad : decBad (encT bs) = false := by
    unfold decBad
    rw [ht, List.any_eq_false]
    intro x hx
    obtain ⟨y, hy, rfl⟩ := List.mem_map.1 hx
    rw [valN_alf (h64 y hy)]
    simp
  have he : decE (encT bs) = 0 := by
    unfold decE
    rw [hbad, hv, r2, encT_length]
    simp
  refine ⟨he, ?_⟩
  unfold decB
  rw [if_pos he, hv, r1]
  simp [pendB]
theorem encT_bytes {bs : List Nat} (hB : Bytes bs) : Bytes (encT bs) := by
  intro x hx
  unfold encT at hx
  rcases List.mem_append.1 hx with hx | hx
  · obtain ⟨y, hy, rfl⟩ := List.mem_map.1 hx
    exact alf_lt (encO_lt bs 0 0 (by decide) (by decide) hB rfl y hy)
  · have := List.eq_of_mem_replicate hx
    omega
end Go.Lin
namespace Go.Proofs.YtdnnjgjaffkdfaaDoor
open Go Go.RowKit Go.Bul Go.Thg Go.Lin
/-- What the closure holds: the bytes, the two counters, the two widths, the function that takes a group. -/
def rgD (gt gb gc gf go gp : Nat) (S : Value) (b c : Nat) : List Ent := [⟨gt, 78, 1, #[S]⟩, ⟨gb, 3, 1, #[.int .i64 (b : Nat)]⟩, ⟨gc, 3, 1, #[.int .i64 (c : Nat)]⟩, ⟨gf, 3, 1, #[.int .i64 6]⟩, ⟨go, 3, 1, #[.int .i64 8]⟩, ⟨gp, 185, 1, #[.func (.func 124) #[] #[.pointer (some ⟨gt, 0, none⟩)]]⟩]
theorem or_bits6 : ∀ (b : Fin 64) (x : Fin 64), bits BinOp.or IntKind.i64 ((b.val * 64 : Nat) : Int) (x.val : Int) = ((b.val * 64 + x.val : Nat) : Int) := by decide +kernel
theorem add_lt6 {b c x : Nat} (hb : b < 2 ^ c) (hx : x < 64) : b * 64 + x < 2 ^ (c + 6) := by
  rw [Nat.pow_add]
  omega
set_option maxRecDepth 20000 in
set_option maxHeartbeats 1000000 in
theorem passD_any {w0 w : World} {L : List Ent} {R : List Thing} {gt : Nat} (E : Option Addr) (m e2 : Nat) (out : List Nat) (grp : Nat) (hM : Mem [] w0 (⟨gt, 78, 1, #[.slice E m e2]⟩ :: L) (bT (.slice E m e2) out :: R) w) (hg : grp < 256) (hl : out.length ≤ 100000) :
    Calls Tryd.prog 124 #[.int .i64 (grp : Nat), .pointer (some ⟨gt, 0, none⟩)] w fun e w' => ∃ E' m' e2', e = .returned (.tuple #[]) ∧ Mem [] w0 (⟨gt, 78, 1, #[.slice E' m' e2']⟩ :: L) (bT (.slice E' m' e2') (out ++ [grp]) :: R) w' := by
  have h63 := Lib.hid (show out.length + [grp].length ≤ 1000000000 by simp; omega)
  have g0 : (0 : Int) ≤ (grp : Int) := Int.natCast_nonneg _
  have g1 : (grp : Int) < 256 := by omega
  clear hg hl
  go_enter Tryd.func124, Tryd.ntmps124
  go_wp2_with (first | ((first | with_reducible refine at_load ?_ | ((with_reducible refine at_load_g ?_ ?_); (· rfl))); first | refine sll hM ?_ | refine slc hM ?_ | refine slp hM ?_) | ((with_reducible refine at_store ?_); first | (refine slw hM ?_; clear hM; intro wx hM) | (refine sls hM ?_; clear hM; intro wx hM) | (refine slt hM ?_; clear hM; intro wx hM)) | ((with_reducible refine at_alloc ?_); refine slz hM ?_; clear hM; intro gx wx hM) | ((with_reducible refine at_box ?_); refine slb hM ?_; clear hM; intro gx wx hM) | (refine lbb1 hM ?_; clear hM; intro g4 wu hM) | ((with_reducible refine at_append ?_); refine la (src_byte1 hM (List.Mem.head _)) hM h63.out ?_; clear hM; intro A4 N4 c4 wv hN4 hM))
  exact bodyPost_end (results_none rfl _ _ _) rfl ⟨rfl, A4, N4, c4, hM.subL (List.sublist_cons_self _ _)⟩
set_option maxRecDepth 20000 in
set_option maxHeartbeats 2000000 in
theorem raddD_any {w0 w : World} {L : List Ent} {R : List Thing} {gt gb gc gf go gp : Nat} (E : Option Addr) (m e2 : Nat) (out : List Nat) (b c x : Nat) (hM : Mem [] w0 (rgD gt gb gc gf go gp (.slice E m e2) b c ++ L) (bT (.slice E m e2) out :: R) w) (hx : x < 64) (hc : c < 7) (hb : b < 2 ^ c) (hl : out.length ≤ 90000) :
    Calls Tryd.prog 134 #[.int .i64 (x : Nat), .pointer (some ⟨gb, 0, none⟩), .pointer (some ⟨gf, 0, none⟩), .pointer (some ⟨gc, 0, none⟩), .pointer (some ⟨go, 0, none⟩), .pointer (some ⟨gp, 0, none⟩)] w fun e w' => ∃ E' m' e2', e = .returned (.tuple #[]) ∧ Mem [] w0 (rgD gt gb gc gf go gp (.slice E' m' e2') (rem8 (b * 64 + x) (c + 6)).1 (rem8 (b * 64 + x) (c + 6)).2 ++ L) (bT (.slice E' m' e2') (out ++ emit8 (b * 64 + x) (c + 6)) :: R) w' := by
  have hb16 : b < 64 := Nat.lt_of_lt_of_le hb (by rw [show (64 : Nat) = 2 ^ 6 by rfl]; exact Nat.pow_le_pow_right (by decide) (by omega))
  have HOR := or_bits6 ⟨b, hb16⟩ ⟨x, hx⟩
  simp only at HOR
  have hb2 := add_lt6 hb hx
  have hc2 : c + 6 ≤ 12 := by omega
  have HC8 : IntKind.i64.wrap ((c : Int) + 6) = ((c + 6 : Nat) : Int) := by rw [IntWalk.i64_in _ ⟨by omega, by omega⟩]; omega
  rw [show ((b * 64 : Nat) : Int) = IntKind.i64.wrap ((b : Int) * 64) by rw [IntWalk.i64_in _ ⟨by omega, by omega⟩]; omega] at HOR
  generalize b * 64 + x = b0 at HOR hb2 ⊢
  generalize c + 6 = c0 at HC8 hb2 hc2 ⊢
  replace HOR := Lib.hid HOR
  replace HC8 := Lib.hid HC8
  have HPS := Lib.hid (fun (w : World) (L : List Ent) (R : List Thing) (E : Option Addr) (m e2 : Nat) (out : List Nat) (grp : Nat) (hM : Mem [] w0 (⟨gt, 78, 1, #[.slice E m e2]⟩ :: L) (bT (.slice E m e2) out :: R) w) (hg : grp < 256) (hl : out.length ≤ 100000) => passD_any E m e2 out grp hM hg hl)
  simp only [rgD, List.cons_append, List.nil_append] at hM ⊢
  go_enter Tryd.func134, Tryd.ntmps134
  go_upto_region 0 with fail
  refine wp_region_allTM hM 9 (HeldM [⟨gc, 3, 1, #[.int .i64 (c : Nat)]⟩, ⟨gf, 3, 1, #[.int .i64 6]⟩]) (by kernel_rfl) ?_
  clear hM
  intro wd hM
  have hS := HeldM.of (hM.subL (L' := [⟨gc, 3, 1, #[.int .i64 (c : Nat)]⟩, ⟨gf, 3, 1, #[.int .i64 6]⟩]) (List.Sublist.cons _ (List.Sublist.cons _ (List.Sublist.cons_cons _ (List.Sublist.cons_cons _ (List.nil_sublist _))))))
  refine wpAllT_takes [3, 1, 5, 6, 7] (by kernel_rfl) (fun _ _ _ _ _ h => h) hS (by kernel_rfl) ?_
  simp only [pickOps, List.filterMap_cons, List.filterMap_nil, List.getElem?_cons_zero, List.getElem?_cons_succ]
  repeat ((with_reducible apply wpHeld_step); (· rfl); (· (intro wq hSw; first | (go_simp; rfl) | ((obtain ⟨_, _, _, hM'⟩ := hSw; exact yields_load (C := fun _ => True) (sqc hM') rfl)))); intro K hK; go_simp; (with_reducible refine hK _ ?_); clear hK K)
  refine wpHeld_nil ?_
  refine wpAllT_one 0 rfl (by kernel_rfl) ?_
  refine slc hM ?_
  refine wpList_then ⟨.inr hS, ?_⟩
  go_simp
  refine wpAllT_takes [2, 4] (by kernel_rfl) (fun _ _ _ _ _ h => h) hS (by kernel_rfl) ?_
  simp only [pickOps, List.filterMap_cons, List.filterMap_nil, List.getElem?_cons_zero, List.getElem?_cons_succ]
  repeat ((with_reducible apply wpHeld_step); (· rfl); (· (intro wq hSw; first | (go_simp; rfl) | (fail))); intro K hK; go_simp; (with_reducible refine hK _ ?_); clear hK K)
  refine wpHeld_nil ?_
  refine wpAllT_one 8 rfl (by kernel_rfl) ?_
  go_simp
  simp only [HOR.out]
  refine sls hM ?_
  clear hM hS
  intro wy hM
  have hS := HeldM.of (hM.subL (L' := [⟨gc, 3, 1, #[.int .i64 (c : Nat)]⟩, ⟨gf, 3, 1, #[.int .i64 6]⟩]) (List.Sublist.cons _ (List.Sublist.cons _ (List.Sublist.cons_cons _ (List.Sublist.cons_cons _ (List.nil_sublist _))))))
  refine wpList_then ⟨.inr hS, ?_⟩
  go_simp
  refine wpAllT_one 9 rfl (by kernel_rfl) ?_
  go_simp
  simp only [HC8.out]
  refine sls hM ?_
  clear hM hS
  intro wx hM
  refine wpList_then ⟨.inl (by decide), wpAllT_drop (by kernel_rfl) ?_⟩
  refine wpAll_done (by kernel_rfl) ?_
  go_wp2_with fail
  have M0 := Lib.hid hM
  clear hM HOR HC8
  generalize IntKind.i64.wrap ((b : Int) * 64) = z9
  go_loopw [] (fun wr => ∃ (b c : Nat) (E : Option Addr) (m e2 : Nat) (o2 : List Nat), b < 2 ^ c ∧ c ≤ c0 ∧ rem8 b0 c0 = rem8 b c ∧ out ++ emit8 b0 c0 = o2 ++ emit8 b c ∧ o2.length + c ≤ 90013 ∧ Mem [] w0 (rgD gt gb gc gf go gp (.slice E m e2) b c ++ L) (bT (.slice E m e2) o2 :: R) wr) (fun wr => cellN gc wr)
  case atStart => exact ⟨b0, c0, E, m, e2, out, hb2, by omega, rfl, rfl, by omega, M0.out⟩
  case round =>
    clear M0
    clear hb hx hc hb16
    obtain ⟨b1, c1, E1, m1, e1, o1, hb1, hcc, hr1, ho1, hl1, hM⟩ := hrel
    simp only [rgD, List.cons_append, List.nil_append] at hM
    have N0 := Lib.hid (cellN_of (g := gc) (c := c1) hM (List.Mem.tail _ (List.Mem.tail _ (List.Mem.head _))))
    by_cases h6 : 8 ≤ c1
    · obtain ⟨c2, rfl⟩ : ∃ c2, c1 = c2 + 8 := ⟨c1 - 8, by omega⟩
      obtain ⟨grp, hgr⟩ : ∃ grp, grp = b1 / 2 ^ c2 := ⟨_, rfl⟩
      obtain ⟨rm, hrm⟩ : ∃ rm, rm = b1 % 2 ^ c2 := ⟨_, rfl⟩
      have HR := Lib.hid (show rem8 b0 c0 = rem8 rm c2 by rw [hr1, rem8_yes, hrm, rem8_no (by omega)])
      have HO := Lib.hid (show out ++ emit8 b0 c0 = (o1 ++ [grp]) ++ emit8 rm c2 by rw [ho1, emit8_yes, hgr, emit8_no (b := rm) (by omega), List.append_nil])
      have hlt : grp < 256 := by rw [hgr]; exact Nat.div_lt_of_lt_mul (by rw [Nat.pow_add] at hb1; omega)
      have HSH := Lib.hid (show ((b1 : Int)) / 2 ^ c2 = (grp : Int) by rw [hgr, show (2 : Int) ^ c2 = ((2 ^ c2 : Nat) : Int) by simp]; omega)
      have hrl : rm < 2 ^ c2 := by rw [hrm]; exact Nat.mod_lt _ (Nat.pow_pos (by decide))
      have hb4 : b1 < 4096 := Nat.lt_of_lt_of_le hb1 (by rw [show (4096 : Nat) = 2 ^ 12 by rfl]; exact Nat.pow_le_pow_right (by decide) (by omega))
      have HAND := and_bits c2 b1 (by omega) hb4
      rw [← hrm, ← pow_wrap c2 (by omega)] at HAND
      replace HAND := Lib.hid HAND
      have hl2 : (o1 ++ [grp]).length + c2 ≤ 90013 := by simp; omega
      have hcd : c2 + 8 ≤ 12 := by omega
      clear hr1 ho1 h6 hgr hrm hb4 hb1
      replace hrl := Lib.hid hrl
      replace hl2 := Lib.hid hl2
      replace hlt := Lib.hid hlt
      have hl3 := Lib.hid (show o1.length ≤ 100000 by omega)
      go_wp2_with (first | ((first | with_reducible refine at_load ?_ | ((with_reducible refine at_load_g ?_ ?_); (· rfl))); first | refine sll hM ?_ | refine slc hM ?_ | refine slp hM ?_) | ((with_reducible refine at_store ?_); first | (refine slw hM ?_; clear hM; intro wx hM) | (refine sls hM ?_; clear hM; intro wx hM) | (refine slt hM ?_; clear hM; intro wx hM)) | ((with_reducible refine at_alloc ?_); refine slz hM ?_; clear hM; intro gx wx hM) | ((with_reducible refine at_box ?_); refine slb hM ?_; clear hM; intro gx wx hM))
      refine wp_region_allTM hM 4 (HeldM [⟨gb, 3, 1, #[.int .i64 (b1 : Nat)]⟩, ⟨gc, 3, 1, #[.int .i64 (c2 : Nat)]⟩, ⟨gf, 3, 1, #[.int .i64 6]⟩, ⟨go, 3, 1, #[.int .i64 8]⟩, ⟨gp, 185, 1, #[.func (.func 124) #[] #[.pointer (some ⟨gt, 0, none⟩)]]⟩]) (by kernel_rfl) ?_
      clear hM
      intro wd hM
      have hS := HeldM.of (hM.subL (L' := [⟨gb, 3, 1, #[.int .i64 (b1 : Nat)]⟩, ⟨gc, 3, 1, #[.int .i64 (c2 : Nat)]⟩, ⟨gf, 3, 1, #[.int .i64 6]⟩, ⟨go, 3, 1, #[.int .i64 8]⟩, ⟨gp, 185, 1, #[.func (.func 124) #[] #[.pointer (some ⟨gt, 0, none⟩)]]⟩]) (List.Sublist.cons _ (List.Sublist.cons_cons _ (List.Sublist.cons_cons _ (List.Sublist.cons_cons _ (List.Sublist.cons_cons _ (List.Sublist.cons_cons _ (List.nil_sublist _))))))))
      refine wpAllT_takes [0, 1, 2, 3] (by kernel_rfl) (fun _ _ _ _ _ h => h) hS (by kernel_rfl) ?_
      simp only [pickOps, List.filterMap_cons, List.filterMap_nil, List.getElem?_cons_zero, List.getElem?_cons_succ]
      repeat ((with_reducible apply wpHeld_step); (· rfl); (· (intro wq hSw; first | (go_simp; rfl) | ((obtain ⟨_, _, _, hM'⟩ := hSw; first | exact yields_load (C := fun _ => True) (sqc hM' (hty := one_fn)) rfl | exact yields_load (C := fun _ => True) (sqc hM') rfl)))); intro K hK; go_simp; (with_reducible refine hK _ ?_); clear hK K)
      refine wpHeld_nil ?_
      refine wpAllT_one 4 rfl (by kernel_rfl) ?_
      go_wp2_with fail
      simp only [HSH.out]
      refine (HPS.out _ _ _ _ _ _ _ grp hM hlt.out hl3.out).mono ?_
      clear hM hS
      rintro e w1 ⟨E2, m2, e3, rfl, hM⟩
      go_wp2_with fail
      refine then_normal ⟨.inl (by kernel_rfl), wpAllT_drop (by kernel_rfl) ?_⟩
      refine wpAll_done (by kernel_rfl) ?_
      go_wp2_with fail
      refine wp_region_allTM hM 5 (HeldM [⟨gb, 3, 1, #[.int .i64 (b1 : Nat)]⟩, ⟨gc, 3, 1, #[.int .i64 (c2 : Nat)]⟩]) (by kernel_rfl) ?_
      clear hM
      intro wd hM
      have hS := HeldM.of (hM.subL (L' := [⟨gb, 3, 1, #[.int .i64 (b1 : Nat)]⟩, ⟨gc, 3, 1, #[.int .i64 (c2 : Nat)]⟩]) (List.Sublist.cons _ (List.Sublist.cons_cons _ (List.Sublist.cons_cons _ (List.nil_sublist _)))))
      refine wpAllT_takes [0, 1, 2, 3, 4] (by kernel_rfl) (fun _ _ _ _ _ h => h) hS (by kernel_rfl) ?_
      simp only [pickOps, List.filterMap_cons, List.filterMap_nil, List.getElem?_cons_zero, List.getElem?_cons_succ]
      repeat ((with_reducible apply wpHeld_step); (· rfl); (· (intro wq hSw; first | (go_simp; rfl) | ((obtain ⟨_, _, _, hM'⟩ := hSw; exact yields_load (C := fun _ => True) (sqc hM') rfl)))); intro K hK; go_simp; (with_reducible refine hK _ ?_); clear hK K)
      refine wpHeld_nil ?_
      refine wpAllT_one 5 rfl (by kernel_rfl) ?_
      go_simp
      simp only [HAND.out]
      refine sls hM ?_
      clear hM hS
      intro wy hM
      refine wpList_then ⟨.inl (by decide), wpAllT_drop (by kernel_rfl) ?_⟩
      refine wpAll_done (by kernel_rfl) ?_
      go_wp2_with fail
      have n1 : cellN gc wy = c2 := cellN_of hM (List.Mem.tail _ (List.Mem.tail _ (List.Mem.head _)))
      refine ⟨⟨rm, c2, E2, m2, e3, _, hrl.out, by omega, HR.out, HO.out, hl2.out, hM⟩, ?_⟩
      rw [n1, N0.out]
      omega
    · go_wp2_with (first | ((first | with_reducible refine at_load ?_ | ((with_reducible refine at_load_g ?_ ?_); (· rfl))); first | refine sll hM ?_ | refine slc hM ?_ | refine slp hM ?_) | ((with_reducible refine at_store ?_); first | (refine slw hM ?_; clear hM; intro wx hM) | (refine sls hM ?_; clear hM; intro wx hM) | (refine slt hM ?_; clear hM; intro wx hM)) | ((with_reducible refine at_alloc ?_); refine slz hM ?_; clear hM; intro gx wx hM) | ((with_reducible refine at_box ?_); refine slb hM ?_; clear hM; intro gx wx hM))
      exact bodyPost_end (results_none rfl _ _ _) rfl ⟨E1, m1, e1, rfl, by rw [hr1, rem8_no h6, ho1, emit8_no h6, List.append_nil]; exact hM⟩
end Go.Proofs.YtdnnjgjaffkdfaaDoor
