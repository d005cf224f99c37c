/- Contracts of From, Verify for any path; every leaf is verified by its path. Rows of pairs of the reference's nodes. Contract of the reference's Pairs. -/
import Derived.Test.YtcfojkecmchbdaaDoorMng
namespace Go.Lin
open Go
def fromF (x : Nd) (idx : Int) (path : List Nd) : Nd × Int :=
  if 10 < path.length then (nd0, 9) else if idx < 0 ∨ (2 : Int) ^ path.length ≤ idx then (nd0, 8) else (climbs idx 0 x path, 0)
def verF (r x : Nd) (idx : Int) (path : List Nd) : Bool := (fromF x idx path).2 == 0 && decide ((fromF x idx path).1 = r)
theorem bitAt_nat (i k : Nat) : bitAt (i : Int) (k : Int) = decide (i / 2 ^ k % 2 = 1) := by
  unfold bitAt
  rw [Int.toNat_natCast]
  have : (i : Int) / 2 ^ k = ((i / 2 ^ k : Nat) : Int) := by simp
  rw [this]
  by_cases h : i / 2 ^ k % 2 = 1
  · rw [decide_eq_true h, decide_eq_true (by omega)]
  · rw [decide_eq_false h, decide_eq_false (by omega)]
theorem step_sib (leaves : List Nd) (i k : Nat) : stepN (i : Int) (k : Int) (nodeN leaves k (i / 2 ^ k)) (nodeN leaves k (sib (i / 2 ^ k))) = nodeN leaves (k + 1) (i / 2 ^ (k + 1)) := by
  unfold stepN pairN
  rw [bitAt_nat, Nat.pow_succ, ← Nat.div_div_eq_div_mul]
  generalize i / 2 ^ k = q
  have e : nodeN leaves (k + 1) (q / 2) = joinN ((k + 1 : Nat) : Int) (nodeN leaves k (2 * (q / 2))) (nodeN leaves k (2 * (q / 2) + 1)) := rfl
  rw [e, show ((k + 1 : Nat) : Int) = (k : Int) + 1 by omega]
  unfold sib
  by_cases h : q % 2 = 0
  · rw [if_pos h, decide_eq_false (by omega), show 2 * (q / 2) = q by omega]
    rfl
  · rw [if_neg h, decide_eq_true (by omega), show 2 * (q / 2) = q - 1 by omega, show q - 1 + 1 = q by omega]
    rfl
theorem climbs_sibs (leaves : List Nd) (i : Nat) : ∀ m k : Nat, climbs (i : Int) k (nodeN leaves k (i / 2 ^ k)) (((List.range' k m).map fun k => nodeN leaves k (sib (i / 2 ^ k)))) = nodeN leaves (k + m) (i / 2 ^ (k + m))
  | 0, k => rfl
  | m + 1, k => by
    rw [List.range'_succ, List.map_cons]
    show climbs (i : Int) (k + 1) (stepN (i : Int) (k : Int) _ _) _ = _
    rw [step_sib, climbs_sibs leaves i m (k + 1)]
    rw [show k + 1 + m = k + (m + 1) by omega]
theorem path_leads (leaves : List Nd) (h i : Nat) (hn : leaves.length = 2 ^ h) (hh : h ≤ 10) (hi : i < 2 ^ h) : fromF (nodeN leaves 0 i) (i : Int) (sibsF leaves i h) = (rootH leaves h, 0) := by
  unfold fromF
  have h2 : (2 : Int) ^ h = ((2 ^ h : Nat) : Int) := by simp
  rw [sibsF_length, if_neg (by omega), if_neg (by rw [h2]; omega)]
  have e := climbs_sibs leaves i h 0
  simp only [Nat.pow_zero, Nat.div_one, Nat.zero_add] at e
  rw [show i / 2 ^ h = 0 from Nat.div_eq_of_lt hi, rootH_node leaves h hn] at e
  unfold sibsF
  rw [List.range_eq_range', e]
theorem leaf_get (leaves : List Nd) (i : Nat) (hi : i < leaves.length) : leaves[i] = nodeN leaves 0 i := by
  simp [nodeN, List.getD_eq_getElem?_getD, hi]
end Go.Lin
namespace Go.Proofs.YtcfojkecmchbdaaDoor
open Go Go.RowKit Go.Bul Go.Thg Go.Lin
set_option maxRecDepth 20000 in
set_option maxHeartbeats 4000000 in
theorem from_any (x : Nd) (idx : Int) (A : Option Addr) (n c : Nat) (path : List Nd) (w : World) (hr : NIn w A n path) (hn : n ≤ 1000000) (hT : Tab w) :
    Calls Tryd.prog 23 #[.agg (ndC x), .int .i64 idx, .slice A n c] w fun e w' => e = .returned (.tuple #[.agg (ndC (fromF x idx path).1), .int .i64 (fromF x idx path).2]) ∧ Below w.heap.size w w' := by
  have hl := hr.len
  unfold fromF
  rw [← hl]
  by_cases h10 : 10 < n
  · rw [if_pos h10]
    have hM := Mem.start [] w
    have c1 : decide ((10 : Int) < (n : Int)) = true := decide_eq_true (by omega)
    have c2 : decide (10 < n) = true := decide_eq_true h10
    clear hr hl hT h10 hn
    go_enter Tryd.func23, Tryd.ntmps23
    go_wp2_with (first | ((with_reducible refine at_build ?_); refine wpList_build_zero rfl _ (by rfl) _ _ zero_nd arr_nd ?_) | ((first | with_reducible refine at_load ?_ | ((with_reducible refine at_load_g ?_ ?_); (· rfl))); first | refine ll hM ?_ | refine lc hM ?_ | refine lp hM ?_) | ((with_reducible refine at_store ?_); first | (refine lw hM ?_; clear hM; intro wx hM) | (refine ls hM ?_; clear hM; intro wx hM) | (refine lt hM ?_; clear hM; intro wx hM)) | ((with_reducible refine at_alloc ?_); refine lz hM ?_; clear hM; intro gx wx hM) | ((with_reducible refine at_box ?_); refine lb hM ?_; clear hM; intro gx wx hM))
    exact bodyPost_ret (results_mem_cell_tmp hM rfl (by rfl) (by repeat (first | exact List.Mem.head _ | apply List.Mem.tail)) (by first | exact row_nd | exact row_n | exact row_half | exact row_a32 | exact row_nd2 | exact row_n2 | exact row_two | exact row_claim | exact row_bld | exact row_bnds) (by rfl)) rfl ⟨rfl, hM.below⟩
  · rw [if_neg h10]
    have c1 : decide ((10 : Int) < (n : Int)) = false := decide_eq_false (by omega)
    have c2 : decide (10 < n) = false := decide_eq_false (by omega)
    by_cases h0 : idx < 0
    · rw [if_pos (.inl h0)]
      have hM := Mem.start [] w
      have c3 : decide (idx < 0) = true := decide_eq_true (by omega)
      clear hr hl hT h10 hn h0
      go_enter Tryd.func23, Tryd.ntmps23
      go_wp2_with (first | ((with_reducible refine at_build ?_); refine wpList_build_zero rfl _ (by rfl) _ _ zero_nd arr_nd ?_) | ((first | with_reducible refine at_load ?_ | ((with_reducible refine at_load_g ?_ ?_); (· rfl))); first | refine ll hM ?_ | refine lc hM ?_ | refine lp hM ?_) | ((with_reducible refine at_store ?_); first | (refine lw hM ?_; clear hM; intro wx hM) | (refine ls hM ?_; clear hM; intro wx hM) | (refine lt hM ?_; clear hM; intro wx hM)) | ((with_reducible refine at_alloc ?_); refine lz hM ?_; clear hM; intro gx wx hM) | ((with_reducible refine at_box ?_); refine lb hM ?_; clear hM; intro gx wx hM))
      exact bodyPost_ret (results_mem_cell_tmp hM rfl (by rfl) (by repeat (first | exact List.Mem.head _ | apply List.Mem.tail)) (by first | exact row_nd | exact row_n | exact row_half | exact row_a32 | exact row_nd2 | exact row_n2 | exact row_two | exact row_claim | exact row_bld | exact row_bnds) (by rfl)) rfl ⟨rfl, hM.below⟩
    · by_cases h1 : (2 : Int) ^ n ≤ idx
      · rw [if_pos (.inr h1)]
        have hM := Mem.start [] w
        have c3 : decide (idx < 0) = false := decide_eq_false (by omega)
        have n0 : (0 : Int) ≤ (n : Int) := Int.natCast_nonneg _
        have n1 : (n : Int) ≤ 10 := by omega
        have hp : (2 : Int) ^ n ≤ 1024 := by
          have h : (2 : Int) ^ n = ((2 ^ n : Nat) : Int) := by simp
          have h2 : 2 ^ n ≤ 2 ^ 10 := Nat.pow_le_pow_right (by decide) (by omega)
          omega
        have hp0 : (0 : Int) ≤ 2 ^ n := by
          have h : (2 : Int) ^ n = ((2 ^ n : Nat) : Int) := by simp
          rw [h]
          exact Int.natCast_nonneg _
        have c4 : wrap64 ((2 : Int) ^ n) = (2 : Int) ^ n := by unfold wrap64; omega
        have c5 : decide ((2 : Int) ^ n ≤ idx) = true := decide_eq_true h1
        clear hr hl hT h10 hn h0 h1 hp hp0
        go_enter Tryd.func23, Tryd.ntmps23
        go_wp2_with (first | ((with_reducible refine at_build ?_); refine wpList_build_zero rfl _ (by rfl) _ _ zero_nd arr_nd ?_) | ((first | with_reducible refine at_load ?_ | ((with_reducible refine at_load_g ?_ ?_); (· rfl))); first | refine ll hM ?_ | refine lc hM ?_ | refine lp hM ?_) | ((with_reducible refine at_store ?_); first | (refine lw hM ?_; clear hM; intro wx hM) | (refine ls hM ?_; clear hM; intro wx hM) | (refine lt hM ?_; clear hM; intro wx hM)) | ((with_reducible refine at_alloc ?_); refine lz hM ?_; clear hM; intro gx wx hM) | ((with_reducible refine at_box ?_); refine lb hM ?_; clear hM; intro gx wx hM))
        exact bodyPost_ret (results_mem_cell_tmp hM rfl (by rfl) (by repeat (first | exact List.Mem.head _ | apply List.Mem.tail)) (by first | exact row_nd | exact row_n | exact row_half | exact row_a32 | exact row_nd2 | exact row_n2 | exact row_two | exact row_claim | exact row_bld | exact row_bnds) (by rfl)) rfl ⟨rfl, hM.below⟩
      · rw [if_neg (by omega)]
        exact from_yes x idx A n c path w hr (by omega) (by omega) (by omega) hT
set_option maxRecDepth 20000 in
set_option maxHeartbeats 4000000 in
theorem verify_any (r x : Nd) (idx : Int) (A : Option Addr) (n c : Nat) (path : List Nd) (w : World) (hr : NIn w A n path) (hn : n ≤ 1000000) (hT : Tab w) :
    Calls Tryd.prog 22 #[.agg (ndC r), .agg (ndC x), .int .i64 idx, .slice A n c] w fun e w' => e = .returned (.bool (verF r x idx path)) ∧ Below w.heap.size w w' := by
  have hM := Mem.start [] w
  have HF := Lib.hid (fun w' (hb : Below w.heap.size w w') => from_any x idx A n c path w' (hr.keep hb) hn (hT.keep hb))
  unfold verF
  generalize (fromF x idx path).1 = Z at HF ⊢
  generalize (fromF x idx path).2 = fe at HF ⊢
  have hq := eq_nd Z r
  clear hr hn hT
  obtain ⟨d, hd⟩ : ∃ d, decide (Z = r) = d := ⟨_, rfl⟩
  rw [hd] at hq ⊢
  clear hd
  cases hfe : (fe == 0)
  · rw [Bool.false_and]
    go_enter Tryd.func22, Tryd.ntmps22
    go_wp2_with (first | ((with_reducible refine (HF.out _ hM.below).mono ?_); rintro e w1 ⟨rfl, hb⟩; replace hM := hM.step hb; clear hb) | ((first | with_reducible refine at_load ?_ | ((with_reducible refine at_load_g ?_ ?_); (· rfl))); first | refine ll hM ?_ | refine lc hM ?_ | refine lp hM ?_) | ((with_reducible refine at_store ?_); first | (refine lw hM ?_; clear hM; intro wx hM) | (refine ls hM ?_; clear hM; intro wx hM) | (refine lt hM ?_; clear hM; intro wx hM)) | ((with_reducible refine at_alloc ?_); refine lz hM ?_; clear hM; intro gx wx hM) | ((with_reducible refine at_box ?_); refine lb hM ?_; clear hM; intro gx wx hM))
    go_ret
    exact ⟨rfl, hM.below⟩
  · rw [Bool.true_and]
    go_enter Tryd.func22, Tryd.ntmps22
    go_wp2_with (first | ((with_reducible refine (HF.out _ hM.below).mono ?_); rintro e w1 ⟨rfl, hb⟩; replace hM := hM.step hb; clear hb) | ((first | with_reducible refine at_load ?_ | ((with_reducible refine at_load_g ?_ ?_); (· rfl))); first | refine ll hM ?_ | refine lc hM ?_ | refine lp hM ?_) | ((with_reducible refine at_store ?_); first | (refine lw hM ?_; clear hM; intro wx hM) | (refine ls hM ?_; clear hM; intro wx hM) | (refine lt hM ?_; clear hM; intro wx hM)) | ((with_reducible refine at_alloc ?_); refine lz hM ?_; clear hM; intro gx wx hM) | ((with_reducible refine at_box ?_); refine lb hM ?_; clear hM; intro gx wx hM))
    go_ret
    exact ⟨rfl, hM.below⟩
end Go.Proofs.YtcfojkecmchbdaaDoor
namespace Go.Lin
open Go Go.Bul
def prCells (l : List (Nd × Nd)) : List Value := l.flatMap fun x => vals .u8 (x.1.val ++ x.2.val)
theorem prCells_length (l : List (Nd × Nd)) : (prCells l).length = l.length * 32 := by
  induction l with
  | nil => rfl
  | cons x l ih => simp only [prCells, List.flatMap_cons, List.length_append, List.length_cons, vals_length, x.1.len, x.2.len] at ih ⊢; omega
theorem prCells_one (l : List (Nd × Nd)) : ∀ u ∈ prCells l, u.oneCell' = true := by
  intro u hu
  obtain ⟨x, _, hx⟩ := List.mem_flatMap.1 hu
  exact vals_one _ _ u hx
theorem prCells_app (a b : List (Nd × Nd)) : prCells (a ++ b) = prCells a ++ prCells b := by simp [prCells]
theorem prCells_get : ∀ (l : List (Nd × Nd)) (i : Nat) (h : i < l.length) (j : Nat) (u : Value), (ndC2 l[i].1 l[i].2)[j]? = some u → (prCells l)[i * 32 + j]? = some u
  | x :: l, 0, _, j, u, hu => by
    have hj : j < 32 := by rw [← ndC2_size x.1 x.2]; exact (Array.getElem?_eq_some_iff.1 hu).1
    have e : prCells (x :: l) = vals .u8 (x.1.val ++ x.2.val) ++ prCells l := by simp [prCells]
    have hj2 : j < (vals .u8 (x.1.val ++ x.2.val)).length := by rw [vals_length, List.length_append, x.1.len, x.2.len]; exact hj
    rw [e, Nat.zero_mul, Nat.zero_add, List.getElem?_append_left hj2]
    simpa [ndC2, cellsOf] using hu
  | x :: l, i + 1, h, j, u, hu => by
    have e : prCells (x :: l) = vals .u8 (x.1.val ++ x.2.val) ++ prCells l := by simp [prCells]
    have h16 : (vals .u8 (x.1.val ++ x.2.val)).length = 32 := by rw [vals_length, List.length_append, x.1.len, x.2.len]
    have hi : i < l.length := by simpa using h
    rw [e, List.getElem?_append_right (by rw [h16]; omega), h16, show (i + 1) * 32 + j - 32 = i * 32 + j by omega]
    exact prCells_get l i hi j u hu
/-- The pairs on the way. -/
def pairsF (idx : Int) : Nat → Nd → List Nd → List (Nd × Nd)
  | _, _, [] => []
  | lev, x, s :: l => pairN idx lev x s :: pairsF idx (lev + 1) (stepN idx lev x s) l
theorem pairsF_length (idx : Int) : ∀ (l : List Nd) (lev : Nat) (x : Nd), (pairsF idx lev x l).length = l.length
  | [], _, _ => rfl
  | s :: l, lev, x => by simp only [pairsF, List.length_cons, pairsF_length idx l]
def pairsE (x : Nd) (idx : Int) (path : List Nd) : List (Nd × Nd) :=
  if 10 < path.length then [] else if idx < 0 ∨ (2 : Int) ^ path.length ≤ idx then [] else pairsF idx 0 x path
theorem pairsE_length (x : Nd) (idx : Int) (path : List Nd) : (pairsE x idx path).length ≤ 10 := by
  unfold pairsE
  split
  · simp
  · split
    · simp
    · rw [pairsF_length]; omega
end Go.Lin
namespace Go.Proofs.YtcfojkecmchbdaaDoor
open Go Go.RowKit Go.Bul Go.Thg Go.Lin
theorem info_n2 : (Tryd.prog.info? 25).map (fun i => (i.zero, i.size, i.bytes)) = some (some (.agg (ndC2 nd0 nd0)), 32, 32) := by kernel_rfl
def prT (v : Value) (l : List (Nd × Nd)) : Thing := rowT 25 32 v l.length (prCells l)
def PIn (w : World) (A : Option Addr) (n : Nat) (l : List (Nd × Nd)) : Prop := Reads w 32 A n (prCells l)
theorem PIn.len {w : World} {A : Option Addr} {n : Nat} {l : List (Nd × Nd)} (h : PIn w A n l) : n = l.length := by
  have := h.1
  rw [prCells_length] at this
  omega
theorem PIn.keep {w w' : World} {A : Option Addr} {n : Nat} {l : List (Nd × Nd)} (h : PIn w A n l) (hb : Below w.heap.size w w') : PIn w' A n l := Reads.keep h hb
theorem PIn.row {w : World} {A : Option Addr} {n : Nat} {l : List (Nd × Nd)} (h : PIn w A n l) (i : Nat) (hi : i < l.length) : ∃ g off, A = some ⟨g, off, none⟩ ∧ g < w.heap.size ∧ ∀ j u, (ndC2 l[i].1 l[i].2)[j]? = some u → w.cell? ⟨g, off + i * 32 + j, none⟩ = some u := by
  obtain ⟨g, off, rfl, hg, hc⟩ := h.2 (by have := h.len; omega)
  refine ⟨g, off, rfl, hg, fun j u hu => ?_⟩
  have := hc _ _ (prCells_get l i hi j u hu)
  rwa [← Nat.add_assoc] at this
theorem PIn.cell {w : World} {g off n : Nat} {l : List (Nd × Nd)} (h : PIn w (some ⟨g, off, none⟩) n l) (i : Nat) (hi : i < l.length) : ∀ j u, (ndC2 l[i].1 l[i].2)[j]? = some u → w.cell? ⟨g, off + i * 32 + j, none⟩ = some u := by
  obtain ⟨g', off', he, _, hc⟩ := h.row i hi
  injection he with he
  injection he with e1 e2
  subst e1 e2
  exact hc
theorem prT_form {v : Value} {l : List (Nd × Nd)} {w : World} (h : (prT v l).P w) : ∃ A c, v = .slice A l.length c ∧ l.length ≤ c ∧ PIn w A l.length l := by
  obtain ⟨A, c, h1, h2, _⟩ := OffRow.form h
  subst h1
  exact ⟨A, c, rfl, h2, OffRow.reads h⟩
theorem prT_in {A : Option Addr} {n c : Nat} {l : List (Nd × Nd)} {w : World} (h : (prT (.slice A n c) l).P w) : PIn w A n l := by
  obtain ⟨A', c', he, _, hn⟩ := prT_form h
  have e1 : A = A' := by injection he
  have e2 : n = l.length := by injection he
  subst e1 e2
  exact hn
theorem pbecomes_zero {G : List Nat} {w w' : World} (A : Option Addr) (h : KeptBut G w w') : Becomes G w (prT (.slice A 0 0) []) w' :=
  ⟨OffRow.empty w' _ _ A, h, fun g hg => by rw [show (prT (.slice A 0 0) []).fp = [] from sFp_zero] at hg; cases hg⟩
set_option maxRecDepth 20000 in
theorem run_lbp1 (y0 y1 : Nd) (w : World) : (Instr.buildSlice 51 1 #[(0, .agg (ndC2 y0 y1))]).run Tryd.prog w = .ok (.slice (some ⟨w.heap.size, 0, none⟩) 1 1) (w.alloc (.cells (ndC2 y0 y1) 25)) := by
  have h := info_n2
  cases hq : Tryd.prog.info? 25 with
  | none => rw [hq] at h; simp at h
  | some i =>
    rw [hq] at h
    simp only [Option.map_some, Option.some.injEq, Prod.mk.injEq] at h
    refine run_buildSlice w _ _ 1 _ _ i _ Tryd.underlying51 hq h.1 (by rw [h.2.1]; decide) (by rw [h.2.1]; decide) ?_
    rw [h.2.1]
    have hz : Array.map (fun x => (Value.agg (ndC2 nd0 nd0)).cells[x % (Value.agg (ndC2 nd0 nd0)).cells.size]!) (Array.range (1 * 32)) = #[Value.int IntKind.u8 0, Value.int IntKind.u8 0, Value.int IntKind.u8 0, Value.int IntKind.u8 0, Value.int IntKind.u8 0, Value.int IntKind.u8 0, Value.int IntKind.u8 0, Value.int IntKind.u8 0, Value.int IntKind.u8 0, Value.int IntKind.u8 0, Value.int IntKind.u8 0, Value.int IntKind.u8 0, Value.int IntKind.u8 0, Value.int IntKind.u8 0, Value.int IntKind.u8 0, Value.int IntKind.u8 0, Value.int IntKind.u8 0, Value.int IntKind.u8 0, Value.int IntKind.u8 0, Value.int IntKind.u8 0, Value.int IntKind.u8 0, Value.int IntKind.u8 0, Value.int IntKind.u8 0, Value.int IntKind.u8 0, Value.int IntKind.u8 0, Value.int IntKind.u8 0, Value.int IntKind.u8 0, Value.int IntKind.u8 0, Value.int IntKind.u8 0, Value.int IntKind.u8 0, Value.int IntKind.u8 0, Value.int IntKind.u8 0] := by kernel_rfl
    rw [hz]
    obtain ⟨l0, hl0, _⟩ := y0
    obtain ⟨p0_0, p0_1, p0_2, p0_3, p0_4, p0_5, p0_6, p0_7, p0_8, p0_9, p0_10, p0_11, p0_12, p0_13, p0_14, p0_15, rfl⟩ := list16 hl0
    obtain ⟨l1, hl1, _⟩ := y1
    obtain ⟨p1_0, p1_1, p1_2, p1_3, p1_4, p1_5, p1_6, p1_7, p1_8, p1_9, p1_10, p1_11, p1_12, p1_13, p1_14, p1_15, rfl⟩ := list16 hl1
    simp [Instr.fill, Value.cells, ndC2, cellsOf, vals]
section
variable {w w0 : World} {G : List Nat} {L : List Ent} {R : List Thing} {ops : Array Oper} {rest : List Oper} {o : Oper} {a : Act} {Q : Exit → Act → World → Prop} {s x x0 x1 : Operand} {v y : Value} {xs ys : List (Nd × Nd)} {m : Nat} {F : Thing → List Thing} {p q : Nd}
theorem lbp1 {y0 y1 : Nd} (hM : Mem G w0 L R w) (h : ∀ g w', Mem G w0 (⟨g, 25, 32, (ndC2 y0 y1)⟩ :: L) R w' → wpList Tryd.prog ops Q rest (a.put o.dst (.slice (some ⟨g, 0, none⟩) 1 1)) w')
    (hgd : o.guard = none := by rfl) (ho : o.op = .buildSlice 51 1 #[(0, x0)] := by rfl) (hx0 : a.eval x0 = .agg (ndC2 y0 y1) := by rfl) : wpList Tryd.prog ops Q (o :: rest) a w := by
  refine wpList_plain hgd fun K hK => ?_
  unfold Oper.wp execOp
  simp only [ho, List.map_toArray, List.map_cons, List.map_nil, hx0, Sem.run_bind, run_lbp1, Result.andThen_ok]
  exact hK _ _ (h _ _ (hM.alloc _ _ (by first | rfl | exact ndC_size _ | exact ndC2_size _ _)))
/-- append pairs onto a row of pairs. -/
theorem lap (hs : Src Tryd.prog 32 51 y m (prCells ys) w) (hM : Mem G w0 L R w) (h63 : xs.length + ys.length ≤ 1000000000)
    (h : ∀ A' N c' w', Hid (N = (xs ++ ys).length) → Mem G w0 L (F (prT (.slice A' N c') (xs ++ ys))) w' → wpList Tryd.prog ops Q rest (a.put o.dst (.slice A' N c')) w')
    (hgd : o.guard = none := by rfl) (ho : o.op = .call { callee := .builtin .append, args := #[s, x], argTypes := #[51, 51] } := by rfl) (hv : a.eval s = v := by rfl) (hR : UpdR (prT v xs) R F := by repeat (first | exact UpdR.head _ _ | apply UpdR.tail)) (hy : a.eval x = y := by rfl) : wpList Tryd.prog ops Q (o :: rest) a w := by
  have hl : m = ys.length := by have := hs.newsLen; rw [prCells_length] at this; omega
  subst hl
  refine wpList_append_thing hM 51 _ 25 (.agg (ndC2 nd0 nd0)) 32 32 Tryd.underlying51 info_n2 (by exact ndC2_size _ _) hgd s x ho v hv xs.length (prCells xs) F hR y hy _ _ hs h63 (by decide) fun A' N c' w' hN hm => ?_
  refine h A' N c' w' (Lib.hid (by simp [hN])) ?_
  have e : prT (.slice A' N c') (xs ++ ys) = rowT 25 32 (.slice A' N c') N (prCells xs ++ prCells ys) := by
    unfold prT
    rw [hN, prCells_app]
    simp
  rw [e]
  exact hm
end
theorem pin_1 {w w0 : World} {G : List Nat} {L : List Ent} {R : List Thing} {g : Nat} {t : TypeId} {x y : Nd} (hM : Mem G w0 L R w) (hL : ⟨g, t, 32, ndC2 x y⟩ ∈ L) : PIn w (some ⟨g, 0, none⟩) 1 [(x, y)] := by
  have hB := hM.blk hL
  refine ⟨by rw [prCells_length]; rfl, fun _ => ⟨g, 0, rfl, hB.lt, fun j u hu => (hB.cell _).trans ?_⟩⟩
  rw [Nat.zero_add]
  have e : prCells [(x, y)] = vals .u8 (x.val ++ y.val) := by simp [prCells]
  rw [e] at hu
  simpa [ndC2, cellsOf] using hu
theorem src_p1 {w w0 : World} {G : List Nat} {L : List Ent} {R : List Thing} {g : Nat} {x y : Nd} (hM : Mem G w0 L R w) (hL : ⟨g, 25, 32, ndC2 x y⟩ ∈ L) : Src Tryd.prog 32 51 (.slice (some ⟨g, 0, none⟩) 1 1) 1 (prCells [(x, y)]) w :=
  (pin_1 hM hL : Reads w 32 _ 1 (prCells [(x, y)])).src (c := 1) Tryd.underlying51 (prCells_one _)
theorem run_b2r (x y : Nd) (w : World) : (Instr.build 25 #[(0, .agg (ndC x)), (1, .agg (ndC y))]).run Tryd.prog w = .ok (.agg (ndC2 x y)) w := by
  obtain ⟨d, hu, hd, hi⟩ := row_n.ex
  obtain ⟨l0, hl0, _⟩ := x
  obtain ⟨l1, hl1, _⟩ := y
  obtain ⟨p0, p1, p2, p3, p4, p5, p6, p7, p8, p9, p10, p11, p12, p13, p14, p15, rfl⟩ := list16 hl0
  obtain ⟨q0, q1, q2, q3, q4, q5, q6, q7, q8, q9, q10, q11, q12, q13, q14, q15, rfl⟩ := list16 hl1
  have h : (Tryd.prog.info? 25).map (·.zero) = some (some (.agg (ndC2 nd0 nd0))) := by kernel_rfl
  cases hq : Tryd.prog.info? 25 with
  | none => rw [hq] at h; simp at h
  | some i =>
    have hz : i.zero = some (.agg (ndC2 nd0 nd0)) := by simpa [hq] using h
    have hf : ∀ (b0 b1 : Bytes _) , Instr.fill (fun i => some (i * 16, 16)) (Value.agg (ndC2 nd0 nd0)).cells [(0, .agg (ndC ⟨[p0, p1, p2, p3, p4, p5, p6, p7, p8, p9, p10, p11, p12, p13, p14, p15], hl0, b0⟩)), (1, .agg (ndC ⟨[q0, q1, q2, q3, q4, q5, q6, q7, q8, q9, q10, q11, q12, q13, q14, q15], hl1, b1⟩))] = some (ndC2 ⟨[p0, p1, p2, p3, p4, p5, p6, p7, p8, p9, p10, p11, p12, p13, p14, p15], hl0, b0⟩ ⟨[q0, q1, q2, q3, q4, q5, q6, q7, q8, q9, q10, q11, q12, q13, q14, q15], hl1, b1⟩) := by
      intro b0 b1
      kernel_rfl
    have zr : ∀ w, (zeroValue 25).run Tryd.prog w = .ok (.agg (ndC2 nd0 nd0)) w := fun w => by simp [zeroValue, typeInfo, hq, hz]
    unfold Instr.build
    simp only [Sem.run_bind, zr, run_underlying Tryd.underlying25, Result.andThen_ok, Go.Bul.run_sizeOf hi, hf, Sem.run_pure]
section
variable {w : World} {o : Oper} {a : Act} {x0 x1 : Operand} {x y : Nd}
theorem held_b2r (ho : o.op = .build 25 #[(0, x0), (1, x1)] := by rfl) (hx : a.eval x0 = .agg (ndC x) := by rfl) (hy : a.eval x1 = .agg (ndC y) := by rfl) : (execOp a.eval o).run Tryd.prog w = .ok (.value (.agg (ndC2 x y))) w := by
  unfold execOp
  simp only [ho, List.map_toArray, List.map_cons, List.map_nil, hx, hy, Sem.run_bind, run_b2r, Result.andThen_ok, Sem.run_pure]
end
end Go.Proofs.YtcfojkecmchbdaaDoor
namespace Go.Thg
open Go Go.RowKit Go.Bul
theorem results_tct {fn : Func} {s p u : Tmp} {ty : TypeId} (h : fn.results = #[.tmp s, .cell p ty, .tmp u]) (tmps : Array Value) (P : Program) (w : World) :
    (results fn tmps).run P w = ((asAddr (tmps.getD p undef)).run P w).andThen fun a w₁ => ((loadVar ty a).run P w₁).andThen fun v w₂ => .ok (.tuple #[tmps.getD s undef, v, tmps.getD u undef]) w₂ := by
  simp only [results, h]
  simp [Sem.run_bind, Result.andThen]
theorem results_mem_tct {P : Program} {w w0 : World} {G : List Nat} {L : List Ent} {R : List Thing} (hM : Mem G w0 L R w) {fn : Func} {s p u : Tmp} {ty : TypeId} (h : fn.results = #[.tmp s, .cell p ty, .tmp u]) {tmps : Array Value} {g : Nat} (hp : tmps.getD p undef = .pointer (some ⟨g, 0, none⟩)) {t : TypeId} {n : Nat} {cs : Array Value}
    (hL : ⟨g, t, n, cs⟩ ∈ L) (hty : RowTy P ty n) {d e : Value} (hd : tmps.getD s undef = d) (he : tmps.getD u undef = e) : (results fn tmps).run P w = .ok (.tuple #[d, .agg cs, e]) w := by
  obtain ⟨d, hu, hd, hi⟩ := hty.ex
  have hl := run_loadVar_row (P := P) w g t ty cs (0, 0) d (hM.blk hL) hu (by cases d <;> simp_all [isRow]) (by rw [hi, hM.size hL])
  rw [results_tct h, hp]
  simp [asAddr, *]
end Go.Thg
namespace Go.Proofs.YtcfojkecmchbdaaDoor
open Go Go.RowKit Go.Bul Go.Thg Go.Lin
set_option maxRecDepth 20000 in
set_option maxHeartbeats 8000000 in
theorem rpairs_any (x : Nd) (idx : Int) (A : Option Addr) (n c : Nat) (path : List Nd) (w : World) (hr : NIn w A n path) (hn : n ≤ 1000000) :
    Calls Tryd.prog 24 #[.agg (ndC x), .int .i64 idx, .slice A n c] w fun e w' => ∃ A' c', e = .returned (.tuple #[.slice A' (pairsE x idx path).length c', .agg (ndC (fromF x idx path).1), .int .i64 (fromF x idx path).2]) ∧ Becomes [] w (prT (.slice A' (pairsE x idx path).length c') (pairsE x idx path)) w' := by
  have hl := hr.len
  unfold fromF pairsE
  rw [← hl]
  by_cases h10 : 10 < n
  · rw [if_pos h10, if_pos h10]
    have hM := Mem.start [] w
    have c1 : decide ((10 : Int) < (n : Int)) = true := decide_eq_true (by omega)
    have c2 : decide (10 < n) = true := decide_eq_true h10
    clear hr hl h10 hn
    go_enter Tryd.func24, Tryd.ntmps24
    go_wp2_with (first | ((with_reducible refine at_build ?_); refine wpList_build_zero rfl _ (by rfl) _ _ zero_n arr_n ?_) | ((first | with_reducible refine at_load ?_ | ((with_reducible refine at_load_g ?_ ?_); (· rfl))); first | refine ll hM ?_ | refine lc hM ?_ | refine lp hM ?_) | ((with_reducible refine at_store ?_); first | (refine lw hM ?_; clear hM; intro wx hM) | (refine ls hM ?_; clear hM; intro wx hM) | (refine lt hM ?_; clear hM; intro wx hM)) | ((with_reducible refine at_alloc ?_); refine lz hM ?_; clear hM; intro gx wx hM) | ((with_reducible refine at_box ?_); refine lb hM ?_; clear hM; intro gx wx hM))
    exact bodyPost_ret (results_mem_tct hM rfl (by rfl) (by repeat (first | exact List.Mem.head _ | apply List.Mem.tail)) (by first | exact row_nd | exact row_n | exact row_half | exact row_a32 | exact row_nd2 | exact row_n2 | exact row_two | exact row_claim | exact row_bld | exact row_bnds) (by rfl) (by rfl)) rfl ⟨none, 0, rfl, (hM.newThing (pbecomes_zero none (KeptBut.refl _ _))).becomes (by exact List.Mem.head _)⟩
  · rw [if_neg h10, if_neg h10]
    have c1 : decide ((10 : Int) < (n : Int)) = false := decide_eq_false (by omega)
    have c2 : decide (10 < n) = false := decide_eq_false (by omega)
    by_cases h0 : idx < 0
    · rw [if_pos (.inl h0), if_pos (.inl h0)]
      have hM := Mem.start [] w
      have c3 : decide (idx < 0) = true := decide_eq_true (by omega)
      clear hr hl h10 hn h0
      go_enter Tryd.func24, Tryd.ntmps24
      go_wp2_with (first | ((with_reducible refine at_build ?_); refine wpList_build_zero rfl _ (by rfl) _ _ zero_n arr_n ?_) | ((first | with_reducible refine at_load ?_ | ((with_reducible refine at_load_g ?_ ?_); (· rfl))); first | refine ll hM ?_ | refine lc hM ?_ | refine lp hM ?_) | ((with_reducible refine at_store ?_); first | (refine lw hM ?_; clear hM; intro wx hM) | (refine ls hM ?_; clear hM; intro wx hM) | (refine lt hM ?_; clear hM; intro wx hM)) | ((with_reducible refine at_alloc ?_); refine lz hM ?_; clear hM; intro gx wx hM) | ((with_reducible refine at_box ?_); refine lb hM ?_; clear hM; intro gx wx hM))
      exact bodyPost_ret (results_mem_tct hM rfl (by rfl) (by repeat (first | exact List.Mem.head _ | apply List.Mem.tail)) (by first | exact row_nd | exact row_n | exact row_half | exact row_a32 | exact row_nd2 | exact row_n2 | exact row_two | exact row_claim | exact row_bld | exact row_bnds) (by rfl) (by rfl)) rfl ⟨none, 0, rfl, (hM.newThing (pbecomes_zero none (KeptBut.refl _ _))).becomes (by exact List.Mem.head _)⟩
    · have n0 : (0 : Int) ≤ (n : Int) := Int.natCast_nonneg _
      have n1 : (n : Int) ≤ 10 := by omega
      have h2 : (2 : Int) ^ n = ((2 ^ n : Nat) : Int) := by simp
      have hp : (2 : Int) ^ n ≤ 1024 := by
        have h2 : 2 ^ n ≤ 2 ^ 10 := Nat.pow_le_pow_right (by decide) (by omega)
        omega
      have hp0 : (0 : Int) ≤ 2 ^ n := by
        rw [h2]
        exact Int.natCast_nonneg _
      have c4 : wrap64 ((2 : Int) ^ n) = (2 : Int) ^ n := by unfold wrap64; omega
      by_cases h1 : (2 : Int) ^ n ≤ idx
      · rw [if_pos (.inr h1), if_pos (.inr h1)]
        have hM := Mem.start [] w
        have c3 : decide (idx < 0) = false := decide_eq_false (by omega)
        have c5 : decide ((2 : Int) ^ n ≤ idx) = true := decide_eq_true h1
        clear hr hl h10 hn h0 h1 hp hp0 h2
        go_enter Tryd.func24, Tryd.ntmps24
        go_wp2_with (first | ((with_reducible refine at_build ?_); refine wpList_build_zero rfl _ (by rfl) _ _ zero_n arr_n ?_) | ((first | with_reducible refine at_load ?_ | ((with_reducible refine at_load_g ?_ ?_); (· rfl))); first | refine ll hM ?_ | refine lc hM ?_ | refine lp hM ?_) | ((with_reducible refine at_store ?_); first | (refine lw hM ?_; clear hM; intro wx hM) | (refine ls hM ?_; clear hM; intro wx hM) | (refine lt hM ?_; clear hM; intro wx hM)) | ((with_reducible refine at_alloc ?_); refine lz hM ?_; clear hM; intro gx wx hM) | ((with_reducible refine at_box ?_); refine lb hM ?_; clear hM; intro gx wx hM))
        exact bodyPost_ret (results_mem_tct hM rfl (by rfl) (by repeat (first | exact List.Mem.head _ | apply List.Mem.tail)) (by first | exact row_nd | exact row_n | exact row_half | exact row_a32 | exact row_nd2 | exact row_n2 | exact row_two | exact row_claim | exact row_bld | exact row_bnds) (by rfl) (by rfl)) rfl ⟨none, 0, rfl, (hM.newThing (pbecomes_zero none (KeptBut.refl _ _))).becomes (by exact List.Mem.head _)⟩
      · rw [if_neg (by omega), if_neg (by omega)]
        have hM := Mem.start [] w
        have c3 : decide (idx < 0) = false := decide_eq_false (by omega)
        have c5 : decide ((2 : Int) ^ n ≤ idx) = false := decide_eq_false h1
        obtain ⟨j, rfl⟩ : ∃ j : Nat, idx = (j : Int) := ⟨idx.toNat, by omega⟩
        obtain ⟨Z, hZ⟩ : ∃ Z, climbs (j : Int) 0 x path = Z := ⟨_, rfl⟩
        obtain ⟨ZP, hZP⟩ : ∃ Z, pairsF (j : Int) 0 x path = Z := ⟨_, rfl⟩
        rw [hZ, hZP]
        have hzl : ZP.length = n := by rw [← hZP, pairsF_length]; exact hl.symm
        have HZ : Hid (climbs (j : Int) 0 x (path.drop 0) = Z) := Lib.hid hZ
        have HZP : Hid ([] ++ pairsF (j : Int) 0 x (path.drop 0) = ZP) := Lib.hid hZP
        have HR := Lib.hid hr
        have HL := Lib.hid hl
        have HJX : Hid (j < 1024) := Lib.hid (by omega)
        have HZL := Lib.hid hzl
        clear hr hl h10 hn h0 h1 hp hp0 h2 hZ hZP hzl
        go_enter Tryd.func24, Tryd.ntmps24
        go_wp2_with (first | ((first | with_reducible refine at_load ?_ | ((with_reducible refine at_load_g ?_ ?_); (· rfl))); first | refine ll hM ?_ | refine lc hM ?_ | refine lp hM ?_) | ((with_reducible refine at_store ?_); first | (refine lw hM ?_; clear hM; intro wx hM) | (refine ls hM ?_; clear hM; intro wx hM) | (refine lt hM ?_; clear hM; intro wx hM)) | ((with_reducible refine at_alloc ?_); refine lz hM ?_; clear hM; intro gx wx hM) | ((with_reducible refine at_box ?_); refine lb hM ?_; clear hM; intro gx wx hM))
        obtain ⟨g10, hg10⟩ := hM.name1
        obtain ⟨g7, hg7⟩ := (hM.subL (List.sublist_cons_self _ _)).name1
        obtain ⟨g3, hg3⟩ := (hM.subL (List.Sublist.cons _ (List.Sublist.cons _ (List.Sublist.refl _)))).name1
        subst hg10 hg7 hg3
        have M0 := Lib.hid (hM.newThing (pbecomes_zero none (KeptBut.refl _ _)))
        clear hM
        go_loopw [11, 9] (fun i p wr => ∃ (k : Nat) (y : Nd) (E : Option Addr) (e2 : Nat) (P : List (Nd × Nd)), k ≤ n ∧ i = .int .i64 (k : Nat) ∧ p = .slice E P.length e2 ∧ Hid (climbs (j : Int) k y (path.drop k) = Z) ∧ Hid (P ++ pairsF (j : Int) k y (path.drop k) = ZP) ∧ P.length = k ∧ Mem [] w [⟨g10, 24, 16, ndC y⟩, ⟨g7, 24, 16, ndC nd0⟩, ⟨g3, 24, 16, ndC x⟩] [prT (.slice E P.length e2) P] wr) (fun i _ _ => n - (intOf i).toNat)
        case atStart => exact ⟨0, x, none, 0, [], by omega, rfl, rfl, HZ, HZP, rfl, M0.out⟩
        case round =>
          clear M0
          obtain ⟨k, y, E, e2, P, hk, rfl, rfl, HK, HP, hPl, hM⟩ := hrel
          have HPL := Lib.hid hPl
          clear hPl
          by_cases hlt : k < n
          · have hkl : k < path.length := by have := HL.out; omega
            obtain ⟨g, off, rfl, _, h5⟩ := NIn.row HR.out k hkl
            have HC := Lib.hid (fun w' (hb : Below w.heap.size w w') => NIn.cell (HR.out.keep hb) k hkl)
            obtain ⟨s, hs⟩ : ∃ s, path[k] = s := ⟨_, rfl⟩
            have hd : path.drop k = s :: path.drop (k + 1) := by rw [List.drop_eq_getElem_cons hkl, hs]
            rw [hs] at HC
            have HK2 : Hid (climbs (j : Int) (k + 1) (stepN (j : Int) k y s) (path.drop (k + 1)) = Z) := Lib.hid (by have h := HK.out; rw [hd] at h; exact h)
            have HP2 : Hid ((P ++ [pairN (j : Int) k y s]) ++ pairsF (j : Int) (k + 1) (stepN (j : Int) k y s) (path.drop (k + 1)) = ZP) := Lib.hid (by have h := HP.out; rw [hd] at h; rw [List.append_assoc]; exact h)
            have h63 : P.length + [(nd0, nd0)].length ≤ 1000000000 := by have := HPL.out; simp; omega
            have hqx : j / 2 ^ k ≤ j := Nat.div_le_self _ _
            have hdx : (j : Int) / 2 ^ k = ((j / 2 ^ k : Nat) : Int) := by simp
            have hq2 : j / 2 ^ k < 2000 := by have := HJX.out; omega
            have hbit := bitAt_nat j k
            have hy2 : stepN (j : Int) k y s = joinN ((k : Int) + 1) (pairN (j : Int) k y s).1 (pairN (j : Int) k y s).2 := rfl
            have k0 : (0 : Int) ≤ (k : Int) := Int.natCast_nonneg _
            have k1 : (k : Int) < (n : Int) := by omega
            have w1 : IntKind.i64.wrap ((k : Int) + 1) = (k : Int) + 1 := IntWalk.i64_in _ ⟨by omega, by omega⟩
            obtain ⟨y2, hy3⟩ : ∃ y2, stepN (j : Int) k y s = y2 := ⟨_, rfl⟩
            rw [hy3] at HK2 HP2 hy2
            obtain ⟨q, hq⟩ : ∃ q, j / 2 ^ k = q := ⟨_, rfl⟩
            rw [hq] at hdx hq2 hbit
            have q3 : (0 : Int) ≤ (q : Int) := Int.natCast_nonneg _
            clear h5 hd hs hkl HK HP hqx hq hy3
            by_cases hpar : q % 2 = 1
            · rw [decide_eq_true hpar] at hbit
              unfold pairN at HP2 hy2
              rw [hbit] at HP2 hy2
              simp only [if_true] at HP2 hy2
              obtain ⟨pa, hpa⟩ : ∃ pa, s = pa := ⟨_, rfl⟩
              obtain ⟨pb, hpb⟩ : ∃ pb, y = pb := ⟨_, rfl⟩
              have HJ := Lib.hid (fun w' => rjoin_any ((k : Int) + 1) pa pb w')
              rw [hpa, hpb] at hy2 HP2
              rw [← hy2] at HJ
              have r0 : (q : Int).tmod 2 = (q : Int) % 2 := Int.tmod_eq_emod_of_nonneg q3
              have r1 : ((q : Int).tmod 2 == 1) = true := by rw [r0]; simp; omega
              have r2 : ((q : Int) % 2 == 1) = true := by simp; omega
              have r3 : (q % 2 == 1) = true := by simp; omega
              clear r0 hpar hq2 hbit hy2
              subst hpa
              go_upto_region 10 with fail
              refine wp_region_allHM hM (fun w' => ∃ L' R', Mem [] w (⟨g10, 24, 16, ndC y⟩ :: L') R' w') (by kernel_rfl) ?_
              clear hM
              intro wd hM
              have hS : ∃ L' R', Mem [] w (⟨g10, 24, 16, ndC y⟩ :: L') R' wd := ⟨_, _, hM⟩
              refine wpAllH_takes [0, 1, 2, 3, 4, 5] (by kernel_rfl) (fun _ _ _ _ _ h => h) hS (by kernel_rfl) ?_
              simp only [pickOps, List.filterMap_cons, List.filterMap_nil, List.getElem?_cons_zero, List.getElem?_cons_succ]
              repeat ((with_reducible apply wpHeld_step); (· rfl); (· (intro w hSw; first | (go_simp; rfl) | ((obtain ⟨_, _, hM'⟩ := hSw; first | exact yields_load (C := fun _ => True) (ql hM') rfl | exact held_row (HC.out _ hM'.below) | exact held_b2r)))); intro K hK; go_simp; (with_reducible refine hK _ ?_); clear hK K)
              refine wpHeld_nil ?_
              refine wpAllH_one 6 rfl (by kernel_rfl) ?_
              refine lz hM ?_
              clear hM hS
              intro g12 wz hM
              have hS : ∃ L' R', Mem [] w (⟨g10, 24, 16, ndC y⟩ :: L') R' wz := ⟨_, _, hM.subL (List.sublist_cons_self _ _)⟩
              refine wpList_then ⟨hS, ?_⟩
              refine wpAllH_one 7 rfl (by kernel_rfl) ?_
              refine lw hM ?_
              clear hM hS
              intro wy hM
              have hS : ∃ L' R', Mem [] w (⟨g10, 24, 16, ndC y⟩ :: L') R' wy := ⟨_, _, hM.subL (List.sublist_cons_self _ _)⟩
              refine wpList_then ⟨hS, ?_⟩
              refine wpAllH_done (by kernel_rfl) ?_
              clear hS
              go_upto_region 12 with fail
              refine wp_region_allHM hM (fun w' => ∃ L' R', Mem [] w (⟨g10, 24, 16, ndC y⟩ :: L') R' w') (by kernel_rfl) ?_
              clear hM
              intro wd2 hM
              have hS : ∃ L' R', Mem [] w (⟨g10, 24, 16, ndC y⟩ :: L') R' wd2 := ⟨_, _, hM.subL (List.sublist_cons_self _ _)⟩
              refine wpAllH_takes [0, 1, 2, 3, 4, 5] (by kernel_rfl) (fun _ _ _ _ _ h => h) hS (by kernel_rfl) ?_
              simp only [pickOps, List.filterMap_cons, List.filterMap_nil, List.getElem?_cons_zero, List.getElem?_cons_succ]
              repeat ((with_reducible apply wpHeld_step); (· rfl); (· (intro w hSw; first | (go_simp; rfl) | ((obtain ⟨_, _, hM'⟩ := hSw; first | exact yields_load (C := fun _ => True) (ql hM') rfl | exact held_row (HC.out _ hM'.below) | exact held_b2r)))); intro K hK; go_simp; (with_reducible refine hK _ ?_); clear hK K)
              refine wpHeld_nil ?_
              refine wpAllH_one 6 rfl (by kernel_rfl) ?_
              refine lw hM ?_
              clear hM hS
              intro wy2 hM
              have hS : ∃ L' R', Mem [] w (⟨g10, 24, 16, ndC y⟩ :: L') R' wy2 := ⟨_, _, hM.subL (List.sublist_cons_self _ _)⟩
              refine wpList_then ⟨hS, ?_⟩
              refine wpAllH_done (by kernel_rfl) ?_
              clear hS
              subst hpb
              obtain ⟨pb, hpb⟩ : ∃ pb, y = pb := ⟨_, rfl⟩
              obtain ⟨pa, hpa⟩ : ∃ pa, s = pa := ⟨_, rfl⟩
              rw [hpb] at HJ HP2 hM
              rw [hpa] at HJ HP2 hM
              clear hpa hpb
              go_wp2_with (first | ((with_reducible refine at_load ?_); first | refine lq0 hM ?_ | refine lq1 hM ?_ | refine ll hM ?_) | (refine lbp1 hM ?_; clear hM; intro g1 w5 hM) | ((with_reducible refine at_append ?_); refine lap (src_p1 hM (List.Mem.head _)) hM h63 ?_; clear hM; intro A2 N2 c2 wx hN2 hM) | ((with_reducible refine (HJ.out _).mono ?_); rintro e w1 ⟨rfl, hb⟩; replace hM := hM.step hb; clear hb) | ((first | with_reducible refine at_load ?_ | ((with_reducible refine at_load_g ?_ ?_); (· rfl))); first | refine ll hM ?_ | refine lc hM ?_ | refine lp hM ?_) | ((with_reducible refine at_store ?_); first | (refine lw hM ?_; clear hM; intro wx hM) | (refine ls hM ?_; clear hM; intro wx hM) | (refine lt hM ?_; clear hM; intro wx hM)) | ((with_reducible refine at_alloc ?_); refine lz hM ?_; clear hM; intro gx wx hM) | ((with_reducible refine at_box ?_); refine lb hM ?_; clear hM; intro gx wx hM))
              obtain rfl : N2 = (P ++ [(pa, pb)]).length := hN2.out
              exact ⟨⟨k + 1, y2, A2, c2, P ++ [(pa, pb)], by omega, by go_num, rfl, HK2, HP2, by simp [HPL.out], hM.subL (List.Sublist.cons _ (List.Sublist.cons _ (List.Sublist.refl _)))⟩, by simp [intOf]; omega⟩
            · rw [decide_eq_false hpar] at hbit
              unfold pairN at HP2 hy2
              rw [hbit] at HP2 hy2
              simp only [Bool.false_eq_true, if_false] at HP2 hy2
              have HJ := Lib.hid (fun w' => rjoin_any ((k : Int) + 1) y s w')
              rw [← hy2] at HJ
              have r0 : (q : Int).tmod 2 = (q : Int) % 2 := Int.tmod_eq_emod_of_nonneg q3
              have r1 : ((q : Int).tmod 2 == 1) = false := by rw [r0]; simp; omega
              have r2 : ((q : Int) % 2 == 1) = false := by simp; omega
              have r3 : (q % 2 == 1) = false := by simp; omega
              clear r0 hpar hq2 hbit hy2
              go_upto_region 10 with fail
              refine wp_region_allHM hM (fun w' => ∃ L' R', Mem [] w (⟨g10, 24, 16, ndC y⟩ :: L') R' w') (by kernel_rfl) ?_
              clear hM
              intro wd hM
              have hS : ∃ L' R', Mem [] w (⟨g10, 24, 16, ndC y⟩ :: L') R' wd := ⟨_, _, hM⟩
              refine wpAllH_takes [0, 1, 2, 3, 4, 5] (by kernel_rfl) (fun _ _ _ _ _ h => h) hS (by kernel_rfl) ?_
              simp only [pickOps, List.filterMap_cons, List.filterMap_nil, List.getElem?_cons_zero, List.getElem?_cons_succ]
              repeat ((with_reducible apply wpHeld_step); (· rfl); (· (intro w hSw; first | (go_simp; rfl) | ((obtain ⟨_, _, hM'⟩ := hSw; first | exact yields_load (C := fun _ => True) (ql hM') rfl | exact held_row (HC.out _ hM'.below) | exact held_b2r)))); intro K hK; go_simp; (with_reducible refine hK _ ?_); clear hK K)
              refine wpHeld_nil ?_
              refine wpAllH_one 6 rfl (by kernel_rfl) ?_
              refine lz hM ?_
              clear hM hS
              intro g12 wz hM
              have hS : ∃ L' R', Mem [] w (⟨g10, 24, 16, ndC y⟩ :: L') R' wz := ⟨_, _, hM.subL (List.sublist_cons_self _ _)⟩
              refine wpList_then ⟨hS, ?_⟩
              refine wpAllH_one 7 rfl (by kernel_rfl) ?_
              refine lw hM ?_
              clear hM hS
              intro wy hM
              have hS : ∃ L' R', Mem [] w (⟨g10, 24, 16, ndC y⟩ :: L') R' wy := ⟨_, _, hM.subL (List.sublist_cons_self _ _)⟩
              refine wpList_then ⟨hS, ?_⟩
              refine wpAllH_done (by kernel_rfl) ?_
              clear hS
              obtain ⟨pa, hpa⟩ : ∃ pa, y = pa := ⟨_, rfl⟩
              obtain ⟨pb, hpb⟩ : ∃ pb, s = pb := ⟨_, rfl⟩
              rw [hpa] at HJ HP2 hM
              rw [hpb] at HJ HP2 hM
              clear hpa hpb
              go_wp2_with (first | ((with_reducible refine at_load ?_); first | refine lq0 hM ?_ | refine lq1 hM ?_ | refine ll hM ?_) | (refine lbp1 hM ?_; clear hM; intro g1 w5 hM) | ((with_reducible refine at_append ?_); refine lap (src_p1 hM (List.Mem.head _)) hM h63 ?_; clear hM; intro A2 N2 c2 wx hN2 hM) | ((with_reducible refine (HJ.out _).mono ?_); rintro e w1 ⟨rfl, hb⟩; replace hM := hM.step hb; clear hb) | ((first | with_reducible refine at_load ?_ | ((with_reducible refine at_load_g ?_ ?_); (· rfl))); first | refine ll hM ?_ | refine lc hM ?_ | refine lp hM ?_) | ((with_reducible refine at_store ?_); first | (refine lw hM ?_; clear hM; intro wx hM) | (refine ls hM ?_; clear hM; intro wx hM) | (refine lt hM ?_; clear hM; intro wx hM)) | ((with_reducible refine at_alloc ?_); refine lz hM ?_; clear hM; intro gx wx hM) | ((with_reducible refine at_box ?_); refine lb hM ?_; clear hM; intro gx wx hM))
              obtain rfl : N2 = (P ++ [(pa, pb)]).length := hN2.out
              exact ⟨⟨k + 1, y2, A2, c2, P ++ [(pa, pb)], by omega, by go_num, rfl, HK2, HP2, by simp [HPL.out], hM.subL (List.Sublist.cons _ (List.Sublist.cons _ (List.Sublist.refl _)))⟩, by simp [intOf]; omega⟩
          · obtain rfl : k = n := by omega
            have hdn : path.drop k = [] := List.drop_of_length_le (by have := HL.out; omega)
            have hz : y = Z := by have h := HK.out; rw [hdn] at h; exact h
            have hzp : P = ZP := by have h := HP.out; rw [hdn] at h; simpa [pairsF] using h
            subst hz hzp
            clear HK HP hlt hk HZ HZP hdn
            go_upto_region 15 with fail
            refine wp_region_allHM hM (fun w' => ∃ L' R', Mem [] w (⟨g10, 24, 16, ndC y⟩ :: L') R' w') (by kernel_rfl) ?_
            clear hM
            intro wd hM
            have hS : ∃ L' R', Mem [] w (⟨g10, 24, 16, ndC y⟩ :: L') R' wd := ⟨_, _, hM⟩
            refine wpAllH_takes [0, 1, 2] (by kernel_rfl) (fun _ _ _ _ _ h => h) hS (by kernel_rfl) ?_
            simp only [pickOps, List.filterMap_cons, List.filterMap_nil, List.getElem?_cons_zero, List.getElem?_cons_succ]
            repeat ((with_reducible apply wpHeld_step); (· rfl); (· (intro w hSw; first | (go_simp; rfl) | ((obtain ⟨_, _, hM'⟩ := hSw; exact yields_load (C := fun _ => True) (ql hM') rfl)))); intro K hK; go_simp; (with_reducible refine hK _ ?_); clear hK K)
            refine wpHeld_nil ?_
            refine wpAllH_one 3 rfl (by kernel_rfl) ?_
            refine lw hM ?_
            clear hM hS
            intro wy hM
            have hS : ∃ L' R', Mem [] w (⟨g10, 24, 16, ndC y⟩ :: L') R' wy := ⟨_, _, hM⟩
            refine wpList_then ⟨hS, ?_⟩
            refine wpAllH_takes [4] (by kernel_rfl) (fun _ _ _ _ _ h => h) hS (by kernel_rfl) ?_
            simp only [pickOps, List.filterMap_cons, List.filterMap_nil, List.getElem?_cons_zero, List.getElem?_cons_succ]
            repeat ((with_reducible apply wpHeld_step); (· rfl); (· (intro w hSw; first | (go_simp; rfl) | (fail))); intro K hK; go_simp; (with_reducible refine hK _ ?_); clear hK K)
            refine wpHeld_nil ?_
            refine wpAllH_done (by kernel_rfl) ?_
            clear hS
            go_wp2_with fail
            exact bodyPost_ret (results_mem_tct hM rfl (by rfl) (by repeat (first | exact List.Mem.head _ | apply List.Mem.tail)) (by first | exact row_nd | exact row_n | exact row_half | exact row_a32 | exact row_nd2 | exact row_n2 | exact row_two | exact row_claim | exact row_bld | exact row_bnds) (by rfl) (by rfl)) rfl ⟨E, e2, rfl, hM.becomes (by exact List.Mem.head _)⟩
end Go.Proofs.YtcfojkecmchbdaaDoor
