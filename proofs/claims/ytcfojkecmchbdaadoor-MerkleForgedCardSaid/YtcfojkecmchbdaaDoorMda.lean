/- What a leaf and a path that lead to the same root as others differ in; equality of two pairs of pairs. -/
import Derived.Test.YtcfojkecmchbdaaDoorMnp
namespace Go.Lin
open Go Go.Bul
theorem vals_append (k : IntKind) (a b : List Nat) : vals k (a ++ b) = vals k a ++ vals k b := by simp [vals]
theorem diffAt_cons (x y : Nd × Nd) (xs ys : List (Nd × Nd)) : ∀ k, diffAt (x :: xs) (y :: ys) (k + 1) = (match diffAt xs ys k with | some j => some (j + 1) | none => if x = y then none else some 0)
  | 0 => by simp [diffAt]
  | k + 1 => by
    show (if (x :: xs)[k + 1]? = (y :: ys)[k + 1]? then diffAt (x :: xs) (y :: ys) (k + 1) else some (k + 1)) = _
    rw [diffAt_cons x y xs ys k]
    simp only [List.getElem?_cons_succ, diffAt]
    split <;> rfl
theorem pairN_inj {idx lev : Int} {a b s t : Nd} (h : pairN idx lev a s = pairN idx lev b t) : a = b ∧ s = t := by
  unfold pairN at h
  split at h
  · exact ⟨(Prod.ext_iff.1 h).2, (Prod.ext_iff.1 h).1⟩
  · exact ⟨(Prod.ext_iff.1 h).1, (Prod.ext_iff.1 h).2⟩
theorem forged (idx : Int) : ∀ (pa pb : List Nd) (k : Nat) (a b : Nd), pa.length = pb.length → climbs idx k a pa = climbs idx k b pb →
    (diffAt (pairsF idx k a pa) (pairsF idx k b pb) pa.length = none → a = b ∧ pa = pb) ∧
    (∀ j, diffAt (pairsF idx k a pa) (pairsF idx k b pb) pa.length = some j → ∃ p q, (pairsF idx k a pa)[j]? = some p ∧ (pairsF idx k b pb)[j]? = some q ∧ p ≠ q ∧ joinN (((k + j : Nat) : Int) + 1) p.1 p.2 = joinN (((k + j : Nat) : Int) + 1) q.1 q.2)
  | [], [], k, a, b, _, h => ⟨fun _ => ⟨h, rfl⟩, fun j hj => by simp [diffAt] at hj⟩
  | [], q :: pb, k, a, b, hl, _ => by simp at hl
  | p :: pa, [], k, a, b, hl, _ => by simp at hl
  | p :: pa, q :: pb, k, a, b, hl, h => by
    have hl' : pa.length = pb.length := by simpa using hl
    obtain ⟨h1, h2⟩ := forged idx pa pb (k + 1) (stepN idx k a p) (stepN idx k b q) hl' h
    have e : diffAt (pairsF idx k a (p :: pa)) (pairsF idx k b (q :: pb)) (p :: pa).length = _ := diffAt_cons (pairN idx k a p) (pairN idx k b q) (pairsF idx (k + 1) (stepN idx k a p) pa) (pairsF idx (k + 1) (stepN idx k b q) pb) pa.length
    rw [e]
    cases hd : diffAt (pairsF idx (k + 1) (stepN idx k a p) pa) (pairsF idx (k + 1) (stepN idx k b q) pb) pa.length with
    | none =>
      obtain ⟨hs, rfl⟩ := h1 hd
      by_cases hp : pairN idx k a p = pairN idx k b q
      · obtain ⟨rfl, rfl⟩ := pairN_inj hp
        refine ⟨fun _ => ⟨rfl, rfl⟩, fun j hj => ?_⟩
        simp at hj
      · refine ⟨fun hn => ?_, fun j hj => ?_⟩
        · simp [hp] at hn
        · simp only [if_neg hp, Option.some.injEq] at hj
          subst hj
          exact ⟨_, _, rfl, rfl, hp, hs⟩
    | some j' =>
      refine ⟨fun hn => by simp at hn, fun j hj => ?_⟩
      simp only [Option.some.injEq] at hj
      subst hj
      obtain ⟨p', q', e1, e2, hne, hj⟩ := h2 j' hd
      refine ⟨p', q', e1, e2, hne, ?_⟩
      rw [show k + (j' + 1) = k + 1 + j' by omega]
      exact hj
theorem diffAt_self (xs : List (Nd × Nd)) : ∀ k, diffAt xs xs k = none
  | 0 => rfl
  | k + 1 => by
    unfold diffAt
    rw [if_pos rfl]
    exact diffAt_self xs k
/-- Whether a leaf or the first k nodes of a path were changed. -/
def chgB (b0 : Bool) (q p : List Nd) : Nat → Bool
  | 0 => b0
  | k + 1 => chgB b0 q p k || !decide (q.getD k nd0 = p.getD k nd0)
theorem chgB_false (b0 : Bool) (q p : List Nd) : ∀ n, chgB b0 q p n = false ↔ b0 = false ∧ ∀ k, k < n → q.getD k nd0 = p.getD k nd0
  | 0 => by simp [chgB]
  | n + 1 => by
    simp only [chgB, Bool.or_eq_false_iff, chgB_false b0 q p n, Bool.not_eq_false', decide_eq_true_eq]
    constructor
    · rintro ⟨⟨h0, h1⟩, h2⟩
      refine ⟨h0, fun k hk => ?_⟩
      by_cases hkn : k = n
      · subst hkn; exact h2
      · exact h1 k (by omega)
    · rintro ⟨h0, h1⟩
      exact ⟨⟨h0, fun k hk => h1 k (by omega)⟩, h1 n (by omega)⟩
theorem chgB_no {b0 : Bool} {q p : List Nd} {n : Nat} (hq : q.length = n) (hp : p.length = n) (h : chgB b0 q p n = false) : b0 = false ∧ q = p := by
  obtain ⟨h0, h1⟩ := (chgB_false b0 q p n).1 h
  refine ⟨h0, List.ext_getElem (by omega) fun k h2 h3 => ?_⟩
  have := h1 k (by omega)
  simpa [List.getD_eq_getElem?_getD, h2, h3] using this
/-- What Collision says of two leaves and paths that lead to the same root. -/
theorem coll_says {idx : Int} {a b r : Nd} {pa pb : List Nd} (hl : pa.length = pb.length) (ha : fromF a idx pa = (r, 0)) (hb : fromF b idx pb = (r, 0)) :
    (chgB (!decide (b = a)) pb pa pa.length = false → collO idx a pa b pb = none) ∧
    (chgB (!decide (b = a)) pb pa pa.length = true → ∃ lev p q, collO idx a pa b pb ≠ none ∧ twoO (pairsF idx 0 a pa) (pairsF idx 0 b pb) (collO idx a pa b pb) = twoC lev p q ∧ p ≠ q ∧ joinN lev p.1 p.2 = joinN lev q.1 q.2) := by
  have hag : agree idx a pa b pb = true := by simp [agree, ha, hb, hl]
  have hco : collO idx a pa b pb = diffAt (pairsF idx 0 a pa) (pairsF idx 0 b pb) pa.length := by unfold collO; rw [if_pos hag]
  have hc1 : climbs idx 0 a pa = r := by
    have h0 := fromF_zero (x := a) (idx := idx) (path := pa) (by rw [ha])
    unfold fromF at ha
    rw [if_neg (by omega), if_neg (by omega)] at ha
    exact (Prod.ext_iff.1 ha).1
  have hc2 : climbs idx 0 b pb = r := by
    have h0 := fromF_zero (x := b) (idx := idx) (path := pb) (by rw [hb])
    unfold fromF at hb
    rw [if_neg (by omega), if_neg (by omega)] at hb
    exact (Prod.ext_iff.1 hb).1
  obtain ⟨h1, h2⟩ := forged idx pa pb 0 a b hl (by rw [hc1, hc2])
  rw [hco]
  constructor
  · intro hch
    obtain ⟨h3, rfl⟩ := chgB_no hl.symm rfl hch
    have h4 : b = a := by simpa using h3
    subst h4
    exact diffAt_self _ _
  · intro hch
    cases hd : diffAt (pairsF idx 0 a pa) (pairsF idx 0 b pb) pa.length with
    | none =>
      obtain ⟨rfl, rfl⟩ := h1 hd
      have : chgB (!decide (a = a)) pa pa pa.length = false := (chgB_false _ _ _ _).2 ⟨by simp, fun _ _ => rfl⟩
      rw [this] at hch
      cases hch
    | some j =>
      obtain ⟨p, q, e1, e2, hne, hj⟩ := h2 j hd
      refine ⟨(j : Int) + 1, p, q, by simp, ?_, hne, ?_⟩
      · simp only [twoO, List.getD_eq_getElem?_getD, e1, e2, Option.getD_some]
      · simpa using hj
theorem coll_says' {idx : Int} {a b r : Nd} {pa pb : List Nd} (hl : pa.length = pb.length) (ha : fromF a idx pa = (r, 0)) (hb : verF r b idx pb = true) :
    ∃ lev u v ob, twoO (pairsF idx 0 a pa) (pairsF idx 0 b pb) (collO idx a pa b pb) = twoC lev u v ∧ (collO idx a pa b pb).isSome = ob ∧
      ((ob = false ∧ chgB (!decide (b = a)) pb pa pa.length = false ∧ lev = 0 ∧ u = (nd0, nd0) ∧ v = (nd0, nd0)) ∨ (ob = true ∧ chgB (!decide (b = a)) pb pa pa.length = true ∧ u ≠ v ∧ joinN lev v.1 v.2 = joinN lev u.1 u.2)) := by
  have hb' : fromF b idx pb = (r, 0) := by
    simp only [verF, Bool.and_eq_true, beq_iff_eq, decide_eq_true_eq] at hb
    exact Prod.ext hb.2 hb.1
  obtain ⟨h1, h2⟩ := coll_says hl ha hb'
  cases hc : chgB (!decide (b = a)) pb pa pa.length with
  | false =>
    have h3 := h1 hc
    rw [h3]
    exact ⟨0, (nd0, nd0), (nd0, nd0), false, rfl, rfl, .inl ⟨rfl, rfl, rfl, rfl, rfl⟩⟩
  | true =>
    obtain ⟨lev, p, q, h3, h4, h5, h6⟩ := h2 hc
    refine ⟨lev, p, q, true, h4, ?_, .inr ⟨rfl, rfl, h5, h6.symm⟩⟩
    cases h : collO idx a pa b pb with
    | none => exact absurd h h3
    | some j => rfl
theorem twoL_at (l : List Value) (A : List Value) (hA : A.length = 16) : (A ++ l).take 16 = A := by
  rw [List.take_append_of_le_length (by omega), List.take_of_length_le (by omega)]
theorem twoC_A0 (lev : Int) (p q : Nd × Nd) : (twoC lev p q).extract 1 (1 + 16) = ndC p.1 := by
  have h1 : (vals .u8 p.1.val).length = 16 := by rw [vals_length, p.1.len]
  apply Array.ext'
  simp only [twoC, twoL, List.extract_toArray, ndC, cellsOf, List.extract_eq_take_drop, List.drop_succ_cons, List.drop_zero, Nat.add_sub_cancel_left, vals_append, List.append_assoc]
  exact twoL_at _ _ h1
theorem twoC_A1 (lev : Int) (p q : Nd × Nd) : (twoC lev p q).extract 17 (17 + 16) = ndC p.2 := by
  have h1 : (vals .u8 p.1.val).length = 16 := by rw [vals_length, p.1.len]
  have h2 : (vals .u8 p.2.val).length = 16 := by rw [vals_length, p.2.len]
  apply Array.ext'
  simp only [twoC, twoL, List.extract_toArray, ndC, cellsOf, List.extract_eq_take_drop, List.drop_succ_cons, Nat.add_sub_cancel_left, vals_append, List.append_assoc]
  rw [List.drop_append_of_le_length (by omega), List.drop_of_length_le (by omega), List.nil_append]
  exact twoL_at _ _ h2
theorem twoC_B0 (lev : Int) (p q : Nd × Nd) : (twoC lev p q).extract 33 (33 + 16) = ndC q.1 := by
  have h := pr_len p
  have h1 : (vals .u8 q.1.val).length = 16 := by rw [vals_length, q.1.len]
  apply Array.ext'
  simp only [twoC, twoL, List.extract_toArray, ndC, cellsOf, List.extract_eq_take_drop, List.drop_succ_cons, Nat.add_sub_cancel_left]
  rw [List.drop_append_of_le_length (by omega), List.drop_of_length_le (by omega), List.nil_append, vals_append]
  exact twoL_at _ _ h1
theorem twoC_B1 (lev : Int) (p q : Nd × Nd) : (twoC lev p q).extract 49 (49 + 16) = ndC q.2 := by
  have h := pr_len p
  have h1 : (vals .u8 q.1.val).length = 16 := by rw [vals_length, q.1.len]
  have h2 : (vals .u8 q.2.val).length = 16 := by rw [vals_length, q.2.len]
  apply Array.ext'
  simp only [twoC, twoL, List.extract_toArray, ndC, cellsOf, List.extract_eq_take_drop, List.drop_succ_cons, Nat.add_sub_cancel_left]
  have e : ∀ l : List Value, l.length = 32 → (l ++ (vals .u8 q.1.val ++ vals .u8 q.2.val)).drop 48 = vals .u8 q.2.val := fun l hl => by
    have e1 : (l ++ (vals .u8 q.1.val ++ vals .u8 q.2.val)).drop 32 = vals .u8 q.1.val ++ vals .u8 q.2.val := List.drop_left' hl
    rw [show 48 = 32 + 16 from rfl, ← List.drop_drop, e1]
    exact List.drop_left' h1
  rw [vals_append .u8 q.1.val, e _ h, List.take_of_length_le (by omega)]
end Go.Lin
namespace Go.Bul
open Go Go.RowKit Go.Thg
theorem at_build_g {P : Program} {w : World} {ops : Array Oper} {rest : List Oper} {a : Act} {Q : Exit → Act → World → Prop} {dst : Option Tmp} {type : TypeId} {pos : String} {after : Array Edge} {t : TypeId} {ps : Array (Nat × Operand)} {g : Nat × Bool}
    (hw : Region.wanted ⟨dst, .build t ps, type, pos, after, some g⟩ (yielded ops a.tmps) = true) (h : wpList P ops Q (⟨dst, .build t ps, type, pos, after, none⟩ :: rest) a w) : wpList P ops Q (⟨dst, .build t ps, type, pos, after, some g⟩ :: rest) a w :=
  wpList_wanted hw h
theorem run_part_one {P : Program} {ty : TypeId} (hty : OneTy P ty) {cs : Array Value} {v : Value} {off : Nat} (hv : cs[off]? = some v) (w : World) : (part ty cs off).run P w = .ok v w := by
  obtain ⟨d, hu, hd, _⟩ := hty.ex
  simp only [part, Sem.run_bind, run_isAgg_no hu hd, Result.andThen_ok, Bool.false_eq_true, if_false, hv, Sem.run_pure]
theorem eqFields_cons {P : Program} {d : Nat} {xs ys : Array Value} {f : Field} {fs : List Field} {a b : Value} {r q : Bool} {w : World} (hn : f.name ≠ "_") (ha : (part f.type xs f.offset).run P w = .ok a w) (hb : (part f.type ys f.offset).run P w = .ok b w) (hr : (Op.equalIn d f.type a b).run P w = .ok r w)
    (hq : (Op.eqFields d xs ys fs).run P w = .ok q w) : (Op.eqFields d xs ys (f :: fs)).run P w = .ok (r && q) w := by
  simp only [Op.eqFields, hn, ne_eq, not_false_eq_true, if_true, Sem.run_bind, ha, hb, hr, Result.andThen_ok]
  cases r
  · simp [Sem.run_pure]
  · simpa using hq
end Go.Bul
namespace Go.Proofs.YtcfojkecmchbdaaDoor
open Go Go.RowKit Go.Bul Go.Thg Go.Lin
theorem eq_two (lev lev' : Int) (p q p' q' : Nd × Nd) (W : World) :
    (Op.equalIn 10000 57 (.agg (twoC lev p q)) (.agg (twoC lev' p' q'))).run Tryd.prog W = .ok (lev == lev' && (decide (p = p') && decide (q = q'))) W := by
  have eI : ∀ (a b : Int), (Op.equalIn 9999 3 (.int .i64 a) (.int .i64 b)).run Tryd.prog W = .ok (a == b) W := fun a b => run_equalIn_int W 9998 3 .i64 .i64 a b Tryd.underlying3
  rw [run_equalIn_struct W 9999 57 _ _ (by kernel_rfl) (by kernel_rfl)]
  simp only [Program.fieldsOf, Tryd.underlying57]
  rw [show (lev == lev' && (decide (p = p') && decide (q = q'))) = (lev == lev' && (decide (p = p') && (decide (q = q') && true))) by simp]
  exact eqFields_cons (by decide) (run_part_one (P := Tryd.prog) one_int (twoC_0 lev p q) W) (run_part_one (P := Tryd.prog) one_int (twoC_0 lev' p' q') W) (eI _ _)
    (eqFields_cons (by decide) (run_part_row (P := Tryd.prog) row_nd2 (twoC_A lev p q) W) (run_part_row (P := Tryd.prog) row_nd2 (twoC_A lev' p' q') W) (eq_pr 9996 p p' W)
      (eqFields_cons (by decide) (run_part_row (P := Tryd.prog) row_nd2 (twoC_B lev p q) W) (run_part_row (P := Tryd.prog) row_nd2 (twoC_B lev' p' q') W) (eq_pr 9996 q q' W) (by simp [Op.eqFields, Sem.run_pure])))
end Go.Proofs.YtcfojkecmchbdaaDoor
