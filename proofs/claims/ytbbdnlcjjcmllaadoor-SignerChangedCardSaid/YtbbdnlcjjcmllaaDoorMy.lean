/- Two pairs: their cells; equality of pairs, built values. Which pairs differ. What a leaf and a path that lead to the same root as others differ in; equality of two pairs of pairs. -/
import Derived.Test.YtbbdnlcjjcmllaaDoorMx
import Derived.Test.YtbbdnlcjjcmllaaDoorVu
import Derived.Test.YtbbdnlcjjcmllaaDoorWi
namespace Go.Lin
open Go Go.Bul
def twoL (lev : Int) (p q : Nd × Nd) : List Value := .int .i64 lev :: (vals .u8 (p.1.val ++ p.2.val) ++ vals .u8 (q.1.val ++ q.2.val))
def twoC (lev : Int) (p q : Nd × Nd) : Array Value := (twoL lev p q).toArray
theorem pr_len (p : Nd × Nd) : (vals .u8 (p.1.val ++ p.2.val)).length = 32 := by rw [vals_length, List.length_append, p.1.len, p.2.len]
theorem twoC_size (lev : Int) (p q : Nd × Nd) : (twoC lev p q).size = 65 := by simp [twoC, twoL, p.1.len, p.2.len, q.1.len, q.2.len]
theorem twoC_one (lev : Int) (p q : Nd × Nd) : ∀ u ∈ (twoC lev p q).toList, u.oneCell' = true := by
  intro u hu
  simp only [twoC, twoL, List.mem_cons, List.mem_append] at hu
  rcases hu with rfl | hu | hu
  · rfl
  · exact vals_one _ _ u hu
  · exact vals_one _ _ u hu
theorem twoC_0 (lev : Int) (p q : Nd × Nd) : (twoC lev p q)[0]? = some (.int .i64 lev) := rfl
theorem twoC_A (lev : Int) (p q : Nd × Nd) : (twoC lev p q).extract 1 (1 + 32) = ndC2 p.1 p.2 := by
  have h := pr_len p
  apply Array.ext'
  simp only [twoC, twoL, List.extract_toArray, ndC2, cellsOf, List.extract_eq_take_drop, List.drop_succ_cons, List.drop_zero, Nat.add_sub_cancel_left]
  rw [List.take_append_of_le_length (by omega), List.take_of_length_le (by omega)]
theorem twoC_B (lev : Int) (p q : Nd × Nd) : (twoC lev p q).extract 33 (33 + 32) = ndC2 q.1 q.2 := by
  have h := pr_len p
  have h2 := pr_len q
  apply Array.ext'
  simp only [twoC, twoL, List.extract_toArray, ndC2, cellsOf, List.extract_eq_take_drop, List.drop_succ_cons, Nat.add_sub_cancel_left]
  rw [List.drop_append_of_le_length (by omega), List.drop_of_length_le (by omega), List.nil_append, List.take_of_length_le (by omega)]
/-- The greatest place below k at which two rows differ. -/
def diffAt (xs ys : List (Nd × Nd)) : Nat → Option Nat
  | 0 => none
  | k + 1 => if xs[k]? = ys[k]? then diffAt xs ys k else some k
def twoO (xs ys : List (Nd × Nd)) : Option Nat → Array Value
  | none => twoC 0 (nd0, nd0) (nd0, nd0)
  | some k => twoC ((k : Int) + 1) (xs.getD k (nd0, nd0)) (ys.getD k (nd0, nd0))
theorem twoO_size (xs ys : List (Nd × Nd)) (o : Option Nat) : (twoO xs ys o).size = 65 := by
  cases o <;> exact twoC_size _ _ _
theorem twoO_one (xs ys : List (Nd × Nd)) (o : Option Nat) : ∀ u ∈ (twoO xs ys o).toList, u.oneCell' = true := by
  cases o <;> exact twoC_one _ _ _
def agree (idx : Int) (a : Nd) (pa : List Nd) (b : Nd) (pb : List Nd) : Bool :=
  (fromF a idx pa).2 == 0 && ((fromF b idx pb).2 == 0 && (pa.length == pb.length && decide ((fromF a idx pa).1 = (fromF b idx pb).1)))
def collO (idx : Int) (a : Nd) (pa : List Nd) (b : Nd) (pb : List Nd) : Option Nat :=
  if agree idx a pa b pb then diffAt (pairsF idx 0 a pa) (pairsF idx 0 b pb) pa.length else none
theorem fromF_zero {x : Nd} {idx : Int} {path : List Nd} (h : (fromF x idx path).2 = 0) : path.length ≤ 10 ∧ 0 ≤ idx ∧ idx < 2 ^ path.length ∧ pairsE x idx path = pairsF idx 0 x path := by
  unfold fromF at h
  unfold pairsE
  split at h
  · simp at h
  · rename_i h10
    split at h
    · simp at h
    · rename_i hi
      rw [if_neg h10, if_neg hi]
      exact ⟨by omega, by omega, by omega, rfl⟩
end Go.Lin
namespace Go.Bul
open Go Go.RowKit Go.Thg
theorem splice_A (hd : Value) (A B X : List Value) (hA : A.length = 32) (hX : X.length = 32) : splice (hd :: (A ++ B)) 1 X = hd :: (X ++ B) := by
  unfold splice
  rw [hX]
  show [hd] ++ (X ++ (A ++ B).drop 32) = _
  rw [List.drop_append_of_le_length (by omega), List.drop_of_length_le (by omega)]
  rfl
theorem splice_B (hd : Value) (A B X : List Value) (hA : A.length = 32) (hB : B.length = 32) (hX : X.length = 32) : splice (hd :: (A ++ B)) 33 X = hd :: (A ++ X) := by
  unfold splice
  rw [hX]
  show (hd :: (A ++ B).take 32) ++ (X ++ (A ++ B).drop 64) = _
  rw [List.take_append_of_le_length (by omega), List.take_of_length_le (by omega), List.drop_of_length_le (by rw [List.length_append]; omega), List.append_nil]
  rfl
end Go.Bul
namespace Go.Proofs.YtbbdnlcjjcmllaaDoor
open Go Go.RowKit Go.Bul Go.Thg Go.Lin
theorem eq_nds (d : Nat) (x y : Nd) (W : World) : (Op.equalIn (d + 2) 41 (.agg (ndC x)) (.agg (ndC y))).run Tryd.prog W = .ok (decide (x = y)) W := by
  have h := run_equalIn_nums W d x.val y.val Tryd.underlying41 Tryd.underlying5 (by kernel_rfl) x.len y.len
  have e : (x.val == y.val) = decide (x = y) := by
    by_cases hxy : x = y
    · subst hxy; simp
    · have : ¬ x.val = y.val := fun h => hxy (Nd.ext' h)
      simp [hxy, this]
  rw [e] at h
  exact h
theorem two_eq (p q : Nd × Nd) : ((List.range 2).all fun i => if i = 0 then decide (p.1 = q.1) else decide (p.2 = q.2)) = decide (p = q) := by
  obtain ⟨a, b⟩ := p
  obtain ⟨c, d⟩ := q
  simp [List.range_succ, Prod.ext_iff]
theorem eq_pr (d : Nat) (p q : Nd × Nd) (W : World) : (Op.equalIn (d + 3) 42 (.agg (ndC2 p.1 p.2)) (.agg (ndC2 q.1 q.2))).run Tryd.prog W = .ok (decide (p = q)) W := by
  rw [Go.Bul.run_equalIn_array W (d + 2) _ _ (fun i => if i = 0 then decide (p.1 = q.1) else decide (p.2 = q.2)) Tryd.underlying42 (show (Tryd.prog.info? 41).map (·.size) = some 16 by kernel_rfl), two_eq]
  intro i hi
  rcases (show i = 0 ∨ i = 1 by omega) with rfl | rfl
  · simp only [Sem.run_bind, Nat.zero_mul, run_part_row row_nd (ext_nd0 _ _), Result.andThen_ok, eq_nds, if_true]
  · simp only [Sem.run_bind, Nat.one_mul, run_part_row row_nd (ext_nd1 _ _), Result.andThen_ok, eq_nds, Nat.one_ne_zero, if_false]
theorem zero_mtwo : ZeroTy Tryd.prog 44 65 (twoC 0 (nd0, nd0) (nd0, nd0)) := ⟨⟨.agg _, by kernel_rfl, rfl, twoC_size _ _ _⟩⟩
def twoPlaces : Array (Nat × Nat) := #[(0, 1), (1, 32), (33, 32)]
theorem two_fill (lev : Int) (p q : Nd × Nd) : Instr.fill (twoPlaces[·]?) (twoC 0 (nd0, nd0) (nd0, nd0)) [(0, .int .i64 lev), (1, .agg (ndC2 p.1 p.2)), (2, .agg (ndC2 q.1 q.2))] = some (twoC lev p q) := by
  have hp := pr_len p
  have hq := pr_len q
  have h0 := pr_len (nd0, nd0)
  rw [fill_cons (size := 1) rfl rfl (by rw [twoC_size]; omega)]
  have e1 : (splice (twoC 0 (nd0, nd0) (nd0, nd0)).toList 0 (Value.cells (.int .i64 lev)).toList).toArray = twoC lev (nd0, nd0) (nd0, nd0) := rfl
  rw [e1, fill_cons (size := 32) rfl (by exact ndC2_size _ _) (by rw [twoC_size]; omega)]
  have e2 : (splice (twoC lev (nd0, nd0) (nd0, nd0)).toList 1 (Value.cells (.agg (ndC2 p.1 p.2))).toList).toArray = twoC lev p (nd0, nd0) := by
    have h := splice_A (.int .i64 lev) _ (vals .u8 ((nd0, nd0).1.val ++ (nd0, nd0).2.val)) _ h0 hp
    exact congrArg List.toArray h
  rw [e2, fill_cons (size := 32) rfl (by exact ndC2_size _ _) (by rw [twoC_size]; omega)]
  have e3 : (splice (twoC lev p (nd0, nd0)).toList 33 (Value.cells (.agg (ndC2 q.1 q.2))).toList).toArray = twoC lev p q := by
    have h := splice_B (.int .i64 lev) _ _ _ hp h0 hq
    exact congrArg List.toArray h
  rw [e3]
  rfl
theorem run_mtwo (lev : Int) (p q : Nd × Nd) (w : World) : (Instr.build 44 #[(0, .int .i64 lev), (1, .agg (ndC2 p.1 p.2)), (2, .agg (ndC2 q.1 q.2))]).run Tryd.prog w = .ok (.agg (twoC lev p q)) w :=
  run_build_struct (show Tryd.prog.underlying 44 = some (.struct (Tryd.prog.fieldsOf 44)) by kernel_rfl) (show (Tryd.prog.info? 44).map (·.zero) = some (some (.agg (twoC 0 (nd0, nd0) (nd0, nd0)))) by kernel_rfl)
    (show ∀ w, ((Tryd.prog.fieldsOf 44).mapM fun f => do pure (f.offset, ← sizeOf f.type) : Sem (Array (Nat × Nat))).run Tryd.prog w = .ok twoPlaces w from fun w => by kernel_rfl) (two_fill lev p q) w
theorem run_two0 (w : World) : (Instr.build 44 #[]).run Tryd.prog w = .ok (.agg (twoC 0 (nd0, nd0) (nd0, nd0))) w :=
  run_build_struct (show Tryd.prog.underlying 44 = some (.struct (Tryd.prog.fieldsOf 44)) by kernel_rfl) (show (Tryd.prog.info? 44).map (·.zero) = some (some (.agg (twoC 0 (nd0, nd0) (nd0, nd0)))) by kernel_rfl)
    (show ∀ w, ((Tryd.prog.fieldsOf 44).mapM fun f => do pure (f.offset, ← sizeOf f.type) : Sem (Array (Nat × Nat))).run Tryd.prog w = .ok twoPlaces w from fun w => by kernel_rfl) rfl w
section
variable {w : World} {ops : Array Oper} {rest : List Oper} {o : Oper} {a : Act} {Q : Exit → Act → World → Prop} {x0 x1 x2 : Operand} {lev : Int} {p q : Nd × Nd}
theorem lbt (h : wpList Tryd.prog ops Q rest (a.put o.dst (.agg (twoC lev p q))) w) (hgd : o.guard = none := by rfl) (ho : o.op = .build 44 #[(0, x0), (1, x1), (2, x2)] := by rfl) (h0 : a.eval x0 = .int .i64 lev := by rfl) (hx : a.eval x1 = .agg (ndC2 p.1 p.2) := by rfl) (hy : a.eval x2 = .agg (ndC2 q.1 q.2) := by rfl) : wpList Tryd.prog ops Q (o :: rest) a w :=
  wpList_build_run hgd _ _ ho _ (by simp only [List.map_toArray, List.map_cons, List.map_nil, h0, hx, hy]) _ (run_mtwo lev p q w) h
theorem lbt0 (h : wpList Tryd.prog ops Q rest (a.put o.dst (.agg (twoC 0 (nd0, nd0) (nd0, nd0)))) w) (hgd : o.guard = none := by rfl) (ho : o.op = .build 44 #[] := by rfl) : wpList Tryd.prog ops Q (o :: rest) a w :=
  wpList_build_run hgd _ _ ho #[] (by simp) _ (run_two0 w) h
end
end Go.Proofs.YtbbdnlcjjcmllaaDoor
namespace Go.Lin
open Go Go.Bul
theorem vals_append (k : IntKind) (a b : List Nat) : vals k (a ++ b) = vals k a ++ vals k b := by simp [vals]
theorem diffAt_cons (x y : Nd × Nd) (xs ys : List (Nd × Nd)) : ∀ k, diffAt (x :: xs) (y :: ys) (k + 1) = (match diffAt xs ys k with | some j => some (j + 1) | none => if x = y then none else some 0)
  | 0 => by simp [diffAt]
  | k + 1 => by
    show (if (x :: xs)[k + 1]? = (y :: ys)[k + 1]? then diffAt (x :: xs) (y :: ys) (k + 1) else some (k + 1)) = _
    rw [diffAt_cons x y xs ys k]
    simp only [List.getElem?_cons_succ, diffAt]
    split <;> rfl
theorem pairN_inj {idx lev : Int} {a b s t : Nd} (h : pairN idx lev a s = pairN idx lev b t) : a = b ∧ s = t := by
  unfold pairN at h
  split at h
  · exact ⟨(Prod.ext_iff.1 h).2, (Prod.ext_iff.1 h).1⟩
  · exact ⟨(Prod.ext_iff.1 h).1, (Prod.ext_iff.1 h).2⟩
theorem forged (idx : Int) : ∀ (pa pb : List Nd) (k : Nat) (a b : Nd), pa.length = pb.length → climbs idx k a pa = climbs idx k b pb →
    (diffAt (pairsF idx k a pa) (pairsF idx k b pb) pa.length = none → a = b ∧ pa = pb) ∧
    (∀ j, diffAt (pairsF idx k a pa) (pairsF idx k b pb) pa.length = some j → ∃ p q, (pairsF idx k a pa)[j]? = some p ∧ (pairsF idx k b pb)[j]? = some q ∧ p ≠ q ∧ joinN (((k + j : Nat) : Int) + 1) p.1 p.2 = joinN (((k + j : Nat) : Int) + 1) q.1 q.2)
  | [], [], k, a, b, _, h => ⟨fun _ => ⟨h, rfl⟩, fun j hj => by simp [diffAt] at hj⟩
  | [], q :: pb, k, a, b, hl, _ => by simp at hl
  | p :: pa, [], k, a, b, hl, _ => by simp at hl
  | p :: pa, q :: pb, k, a, b, hl, h => by
    have hl' : pa.length = pb.length := by simpa using hl
    obtain ⟨h1, h2⟩ := forged idx pa pb (k + 1) (stepN idx k a p) (stepN idx k b q) hl' h
    have e : diffAt (pairsF idx k a (p :: pa)) (pairsF idx k b (q :: pb)) (p :: pa).length = _ := diffAt_cons (pairN idx k a p) (pairN idx k b q) (pairsF idx (k + 1) (stepN idx k a p) pa) (pairsF idx (k + 1) (stepN idx k b q) pb) pa.length
    rw [e]
    cases hd : diffAt (pairsF idx (k + 1) (stepN idx k a p) pa) (pairsF idx (k + 1) (stepN idx k b q) pb) pa.length with
    | none =>
      obtain ⟨hs, rfl⟩ := h1 hd
      by_cases hp : pairN idx k a p = pairN idx k b q
      · obtain ⟨rfl, rfl⟩ := pairN_inj hp
        refine ⟨fun _ => ⟨rfl, rfl⟩, fun j hj => ?_⟩
        simp at hj
      · refine ⟨fun hn => ?_, fun j hj => ?_⟩
        · simp [hp] at hn
        · simp only [if_neg hp, Option.some.injEq] at hj
          subst hj
          exact ⟨_, _, rfl, rfl, hp, hs⟩
    | some j' =>
      refine ⟨fun hn => by simp at hn, fun j hj => ?_⟩
      simp only [Option.some.injEq] at hj
      subst hj
      obtain ⟨p', q', e1, e2, hne, hj⟩ := h2 j' hd
      refine ⟨p', q', e1, e2, hne, ?_⟩
      rw [show k + (j' + 1) = k + 1 + j' by omega]
      exact hj
theorem diffAt_self (xs : List (Nd × Nd)) : ∀ k, diffAt xs xs k = none
  | 0 => rfl
  | k + 1 => by
    unfold diffAt
    rw [if_pos rfl]
    exact diffAt_self xs k
/-- Whether a leaf or the first k nodes of a path were changed. -/
def chgB (b0 : Bool) (q p : List Nd) : Nat → Bool
  | 0 => b0
  | k + 1 => chgB b0 q p k || !decide (q.getD k nd0 = p.getD k nd0)
theorem chgB_false (b0 : Bool) (q p : List Nd) : ∀ n, chgB b0 q p n = false ↔ b0 = false ∧ ∀ k, k < n → q.getD k nd0 = p.getD k nd0
  | 0 => by simp [chgB]
  | n + 1 => by
    simp only [chgB, Bool.or_eq_false_iff, chgB_false b0 q p n, Bool.not_eq_false', decide_eq_true_eq]
    constructor
    · rintro ⟨⟨h0, h1⟩, h2⟩
      refine ⟨h0, fun k hk => ?_⟩
      by_cases hkn : k = n
      · subst hkn; exact h2
      · exact h1 k (by omega)
    · rintro ⟨h0, h1⟩
      exact ⟨⟨h0, fun k hk => h1 k (by omega)⟩, h1 n (by omega)⟩
theorem chgB_no {b0 : Bool} {q p : List Nd} {n : Nat} (hq : q.length = n) (hp : p.length = n) (h : chgB b0 q p n = false) : b0 = false ∧ q = p := by
  obtain ⟨h0, h1⟩ := (chgB_false b0 q p n).1 h
  refine ⟨h0, List.ext_getElem (by omega) fun k h2 h3 => ?_⟩
  have := h1 k (by omega)
  simpa [List.getD_eq_getElem?_getD, h2, h3] using this
/-- What Collision says of two leaves and paths that lead to the same root. -/
theorem coll_says {idx : Int} {a b r : Nd} {pa pb : List Nd} (hl : pa.length = pb.length) (ha : fromF a idx pa = (r, 0)) (hb : fromF b idx pb = (r, 0)) :
    (chgB (!decide (b = a)) pb pa pa.length = false → collO idx a pa b pb = none) ∧
    (chgB (!decide (b = a)) pb pa pa.length = true → ∃ lev p q, collO idx a pa b pb ≠ none ∧ twoO (pairsF idx 0 a pa) (pairsF idx 0 b pb) (collO idx a pa b pb) = twoC lev p q ∧ p ≠ q ∧ joinN lev p.1 p.2 = joinN lev q.1 q.2) := by
  have hag : agree idx a pa b pb = true := by simp [agree, ha, hb, hl]
  have hco : collO idx a pa b pb = diffAt (pairsF idx 0 a pa) (pairsF idx 0 b pb) pa.length := by unfold collO; rw [if_pos hag]
  have hc1 : climbs idx 0 a pa = r := by
    have h0 := fromF_zero (x := a) (idx := idx) (path := pa) (by rw [ha])
    unfold fromF at ha
    rw [if_neg (by omega), if_neg (by omega)] at ha
    exact (Prod.ext_iff.1 ha).1
  have hc2 : climbs idx 0 b pb = r := by
    have h0 := fromF_zero (x := b) (idx := idx) (path := pb) (by rw [hb])
    unfold fromF at hb
    rw [if_neg (by omega), if_neg (by omega)] at hb
    exact (Prod.ext_iff.1 hb).1
  obtain ⟨h1, h2⟩ := forged idx pa pb 0 a b hl (by rw [hc1, hc2])
  rw [hco]
  constructor
  · intro hch
    obtain ⟨h3, rfl⟩ := chgB_no hl.symm rfl hch
    have h4 : b = a := by simpa using h3
    subst h4
    exact diffAt_self _ _
  · intro hch
    cases hd : diffAt (pairsF idx 0 a pa) (pairsF idx 0 b pb) pa.length with
    | none =>
      obtain ⟨rfl, rfl⟩ := h1 hd
      have : chgB (!decide (a = a)) pa pa pa.length = false := (chgB_false _ _ _ _).2 ⟨by simp, fun _ _ => rfl⟩
      rw [this] at hch
      cases hch
    | some j =>
      obtain ⟨p, q, e1, e2, hne, hj⟩ := h2 j hd
      refine ⟨(j : Int) + 1, p, q, by simp, ?_, hne, ?_⟩
      · simp only [twoO, List.getD_eq_getElem?_getD, e1, e2, Option.getD_some]
      · simpa using hj
theorem twoL_at (l : List Value) (A : List Value) (hA : A.length = 16) : (A ++ l).take 16 = A := by
  rw [List.take_append_of_le_length (by omega), List.take_of_length_le (by omega)]
theorem twoC_A0 (lev : Int) (p q : Nd × Nd) : (twoC lev p q).extract 1 (1 + 16) = ndC p.1 := by
  have h1 : (vals .u8 p.1.val).length = 16 := by rw [vals_length, p.1.len]
  apply Array.ext'
  simp only [twoC, twoL, List.extract_toArray, ndC, cellsOf, List.extract_eq_take_drop, List.drop_succ_cons, List.drop_zero, Nat.add_sub_cancel_left, vals_append, List.append_assoc]
  exact twoL_at _ _ h1
theorem twoC_A1 (lev : Int) (p q : Nd × Nd) : (twoC lev p q).extract 17 (17 + 16) = ndC p.2 := by
  have h1 : (vals .u8 p.1.val).length = 16 := by rw [vals_length, p.1.len]
  have h2 : (vals .u8 p.2.val).length = 16 := by rw [vals_length, p.2.len]
  apply Array.ext'
  simp only [twoC, twoL, List.extract_toArray, ndC, cellsOf, List.extract_eq_take_drop, List.drop_succ_cons, Nat.add_sub_cancel_left, vals_append, List.append_assoc]
  rw [List.drop_append_of_le_length (by omega), List.drop_of_length_le (by omega), List.nil_append]
  exact twoL_at _ _ h2
theorem twoC_B0 (lev : Int) (p q : Nd × Nd) : (twoC lev p q).extract 33 (33 + 16) = ndC q.1 := by
  have h := pr_len p
  have h1 : (vals .u8 q.1.val).length = 16 := by rw [vals_length, q.1.len]
  apply Array.ext'
  simp only [twoC, twoL, List.extract_toArray, ndC, cellsOf, List.extract_eq_take_drop, List.drop_succ_cons, Nat.add_sub_cancel_left]
  rw [List.drop_append_of_le_length (by omega), List.drop_of_length_le (by omega), List.nil_append, vals_append]
  exact twoL_at _ _ h1
theorem twoC_B1 (lev : Int) (p q : Nd × Nd) : (twoC lev p q).extract 49 (49 + 16) = ndC q.2 := by
  have h := pr_len p
  have h1 : (vals .u8 q.1.val).length = 16 := by rw [vals_length, q.1.len]
  have h2 : (vals .u8 q.2.val).length = 16 := by rw [vals_length, q.2.len]
  apply Array.ext'
  simp only [twoC, twoL, List.extract_toArray, ndC, cellsOf, List.extract_eq_take_drop, List.drop_succ_cons, Nat.add_sub_cancel_left]
  have e : ∀ l : List Value, l.length = 32 → (l ++ (vals .u8 q.1.val ++ vals .u8 q.2.val)).drop 48 = vals .u8 q.2.val := fun l hl => by
    have e1 : (l ++ (vals .u8 q.1.val ++ vals .u8 q.2.val)).drop 32 = vals .u8 q.1.val ++ vals .u8 q.2.val := List.drop_left' hl
    rw [show 48 = 32 + 16 from rfl, ← List.drop_drop, e1]
    exact List.drop_left' h1
  rw [vals_append .u8 q.1.val, e _ h, List.take_of_length_le (by omega)]
end Go.Lin
namespace Go.Bul
open Go Go.RowKit Go.Thg
end Go.Bul
namespace Go.Proofs.YtbbdnlcjjcmllaaDoor
open Go Go.RowKit Go.Bul Go.Thg Go.Lin
end Go.Proofs.YtbbdnlcjjcmllaaDoor
