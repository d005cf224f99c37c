/- Builders, plain: their cells, what they hold, how a leaf is added. Contracts of a builder: Add. Counting ones; zeros at the end. -/
import Derived.Test.YtcfojkecmchbdaaDoorMnh
import Derived.Test.YtcfojkecmchbdaaDoorMcd
namespace Go.Lin
open Go Go.Bul
def bldL (ns : List Nd) (c : Int) : List Value := ndCells ns ++ [.int .i64 c]
def bldC (ns : List Nd) (c : Int) : Array Value := (bldL ns c).toArray
theorem ndCells_eleven {ns : List Nd} (h : ns.length = 11) : (ndCells ns).length = 176 := by rw [ndCells_length, h]
theorem bldC_size {ns : List Nd} (c : Int) (h : ns.length = 11) : (bldC ns c).size = 177 := by simp [bldC, bldL, ndCells_eleven h]
theorem bldC_cnt {ns : List Nd} (c : Int) (h : ns.length = 11) : (bldC ns c)[176]? = some (.int .i64 c) := by
  simp only [bldC, bldL, List.getElem?_toArray]
  rw [List.getElem?_append_right (by rw [ndCells_eleven h]; exact Nat.le_refl _), ndCells_eleven h]
  rfl
theorem bldC_setc {ns : List Nd} (c d : Int) (h : ns.length = 11) : (bldC ns c).setIfInBounds 176 (.int .i64 d) = bldC ns d := by
  apply Array.ext'
  simp only [bldC, bldL, List.setIfInBounds_toArray]
  rw [List.set_append_right _ _ (by rw [ndCells_eleven h]; exact Nat.le_refl _), ndCells_eleven h]
  rfl
theorem ndCells_cons (x : Nd) (l : List Nd) : ndCells (x :: l) = vals .u8 x.val ++ ndCells l := by simp [ndCells]
theorem ndCells_drop : ∀ (l : List Nd) (k : Nat) (z : List Value) (_ : k < l.length), ((ndCells l ++ z).drop (k * 16)).take 16 = vals .u8 (l.getD k nd0).val
  | [], k, z, h => by simp at h
  | x :: l, 0, z, h => by
    have h1 : (vals .u8 x.val).length = 16 := by rw [vals_length, x.len]
    rw [ndCells_cons, Nat.zero_mul, List.drop_zero, List.append_assoc, List.take_append_of_le_length (by omega), List.take_of_length_le (by omega)]
    rfl
  | x :: l, k + 1, z, h => by
    have h1 : (vals .u8 x.val).length = 16 := by rw [vals_length, x.len]
    have e : (vals .u8 x.val ++ (ndCells l ++ z)).drop 16 = ndCells l ++ z := List.drop_left' h1
    rw [ndCells_cons, List.append_assoc, show (k + 1) * 16 = 16 + k * 16 by omega, ← List.drop_drop, e, ndCells_drop l k z (by simpa using h)]
    rfl
theorem bldC_nd {ns : List Nd} (c : Int) (h : ns.length = 11) (k : Nat) (hk : k < 11) : (bldC ns c).extract (k * 16) (k * 16 + 16) = ndC (ns.getD k nd0) := by
  apply Array.ext'
  simp only [bldC, bldL, List.extract_toArray, ndC, cellsOf, List.extract_eq_take_drop, Nat.add_sub_cancel_left]
  exact ndCells_drop ns k _ (by omega)
theorem ndCells_splice : ∀ (l : List Nd) (k : Nat) (z : List Value) (x : Nd) (_ : k < l.length), splice (ndCells l ++ z) (k * 16) (vals .u8 x.val) = ndCells (l.set k x) ++ z
  | [], k, z, x, h => by simp at h
  | y :: l, 0, z, x, h => by
    have h1 : (vals .u8 y.val).length = 16 := by rw [vals_length, y.len]
    have h2 : (vals .u8 x.val).length = 16 := by rw [vals_length, x.len]
    unfold splice
    rw [ndCells_cons, List.set_cons_zero, ndCells_cons, Nat.zero_mul, List.take_zero, h2, Nat.zero_add, List.append_assoc, List.drop_left' h1, List.nil_append, List.append_assoc]
  | y :: l, k + 1, z, x, h => by
    have h1 : (vals .u8 y.val).length = 16 := by rw [vals_length, y.len]
    have h2 : (vals .u8 x.val).length = 16 := by rw [vals_length, x.len]
    have ih := ndCells_splice l k z x (by simpa using h)
    unfold splice at ih ⊢
    have e1 : (vals .u8 y.val ++ (ndCells l ++ z)).take (16 + k * 16) = vals .u8 y.val ++ (ndCells l ++ z).take (k * 16) := by
      rw [List.take_append, h1, List.take_of_length_le (by omega), Nat.add_sub_cancel_left]
    have e2 : (vals .u8 y.val ++ (ndCells l ++ z)).drop (16 + (k * 16 + 16)) = (ndCells l ++ z).drop (k * 16 + 16) := by
      rw [← List.drop_drop, List.drop_left' h1]
    rw [ndCells_cons, List.set_cons_succ, ndCells_cons, h2, show (k + 1) * 16 = 16 + k * 16 by omega, Nat.add_assoc, List.append_assoc, e1, e2, List.append_assoc, List.append_assoc]
    congr 1
    rw [h2] at ih
    exact ih
theorem bldC_setn {ns : List Nd} (c : Int) (h : ns.length = 11) (k : Nat) (hk : k < 11) (x : Nd) : (splice (bldC ns c).toList (k * 16) (ndC x).toList).toArray = bldC (ns.set k x) c := by
  unfold bldC bldL
  exact congrArg List.toArray (ndCells_splice ns k [.int .i64 c] x (by omega))
theorem bldC_one (ns : List Nd) (c : Int) : ∀ u ∈ (bldC ns c).toList, u.oneCell' = true := by
  intro u hu
  simp only [bldC, bldL, List.mem_append, List.mem_singleton] at hu
  rcases hu with hu | rfl
  · exact ndCells_one _ u hu
  · rfl
/-- Nodes of lists that agree there. -/
theorem nodeN_agree (ls ms : List Nd) : ∀ (k j i : Nat), (∀ t, t < 2 ^ k → ls.getD (j * 2 ^ k + t) nd0 = ms.getD (i * 2 ^ k + t) nd0) → nodeN ls k j = nodeN ms k i
  | 0, j, i, h => by simpa [nodeN] using h 0 (by decide)
  | k + 1, j, i, h => by
    show joinN _ (nodeN ls k (2 * j)) (nodeN ls k (2 * j + 1)) = joinN _ (nodeN ms k (2 * i)) (nodeN ms k (2 * i + 1))
    have e : ∀ a : Nat, a * 2 ^ (k + 1) = 2 * a * 2 ^ k := fun a => by rw [Nat.pow_succ, Nat.mul_comm 2 a, Nat.mul_assoc, Nat.mul_comm 2]
    have p : 2 ^ (k + 1) = 2 ^ k + 2 ^ k := by rw [Nat.pow_succ]; omega
    rw [nodeN_agree ls ms k (2 * j) (2 * i) fun t ht => ?_, nodeN_agree ls ms k (2 * j + 1) (2 * i + 1) fun t ht => ?_]
    · have := h (2 ^ k + t) (by omega)
      rw [e, e] at this
      rw [Nat.add_mul, Nat.add_mul, Nat.one_mul, Nat.add_assoc, Nat.add_assoc]
      exact this
    · have := h t (by omega)
      rw [e, e] at this
      exact this
theorem nodeN_app (ls ys : List Nd) (k j : Nat) (h : (j + 1) * 2 ^ k ≤ ls.length) : nodeN (ls ++ ys) k j = nodeN ls k j :=
  nodeN_agree _ _ k j j fun t ht => by
    rw [Nat.add_mul, Nat.one_mul] at h
    rw [List.getD_eq_getElem?_getD, List.getElem?_append_left (by omega), List.getD_eq_getElem?_getD]
theorem nodeN_part (ls : List Nd) (k j d : Nat) (hd : d = j * 2 ^ k) : nodeN ((ls.drop d).take (2 ^ k)) k 0 = nodeN ls k j :=
  nodeN_agree _ _ k 0 j fun t ht => by
    subst hd
    simp [List.getD_eq_getElem?_getD, ht]
/-- What a builder holds. -/
structure BInv (ls ns : List Nd) : Prop where
  len : ns.length = 11
  at_ : ∀ k, k ≤ 10 → ls.length / 2 ^ k % 2 = 1 → ns.getD k nd0 = nodeN ls k (ls.length / 2 ^ k - 1)
theorem BInv.nil : BInv [] (List.replicate 11 nd0) := ⟨rfl, fun k _ h => by simp at h⟩
/-- On the way up: level k, the node there. -/
structure BUp (ls : List Nd) (x : Nd) (k : Nat) (y : Nd) : Prop where
  le : k ≤ 10
  dvd : (ls.length + 1) % 2 ^ k = 0
  nd : y = nodeN (ls ++ [x]) k ((ls.length + 1) / 2 ^ k - 1)
theorem BUp.start (ls : List Nd) (x : Nd) : BUp ls x 0 x := ⟨by decide, Nat.mod_one _, by simp [nodeN, List.getD_eq_getElem?_getD]⟩
theorem up_q {n k : Nat} (h : (n + 1) % 2 ^ k = 0) : ∃ q, n + 1 = (q + 1) * 2 ^ k ∧ (n + 1) / 2 ^ k = q + 1 ∧ n / 2 ^ k = q := by
  have hp : 0 < 2 ^ k := Nat.pow_pos (by decide)
  obtain ⟨q, hq⟩ := Nat.dvd_of_mod_eq_zero h
  have h0 : q ≠ 0 := by rintro rfl; simp at hq
  obtain ⟨q, rfl⟩ : ∃ r, q = r + 1 := ⟨q - 1, by omega⟩
  have hq2 : n + 1 = (q + 1) * 2 ^ k := by rw [hq, Nat.mul_comm]
  refine ⟨q, hq2, by rw [hq2]; exact Nat.mul_div_cancel _ hp, ?_⟩
  have hn : n = q * 2 ^ k + (2 ^ k - 1) := by rw [Nat.add_mul, Nat.one_mul] at hq2; omega
  rw [hn, Nat.mul_comm, Nat.mul_add_div hp, Nat.div_eq_of_lt (by omega)]
  rfl
theorem BUp.step {ls ns : List Nd} {x y : Nd} {k : Nat} (h : BUp ls x k y) (hB : BInv ls ns) (hb : ls.length / 2 ^ k % 2 = 1) (hl : ls.length < 1024) : k + 1 ≤ 10 ∧ BUp ls x (k + 1) (joinN (((k + 1 : Nat)) : Int) (ns.getD k nd0) y) := by
  obtain ⟨q, h1, h2, h3⟩ := up_q h.dvd
  have hk : k + 1 ≤ 10 := by
    rcases Nat.lt_or_ge k 10 with hk | hk
    · omega
    · obtain rfl : k = 10 := by have := h.le; omega
      rw [Nat.div_eq_of_lt (by simpa using hl)] at hb
      omega
  rw [h3] at hb
  obtain ⟨t, rfl⟩ : ∃ t, q = 2 * t + 1 := ⟨q / 2, by omega⟩
  have hp : 0 < 2 ^ (k + 1) := Nat.pow_pos (by decide)
  have e : ls.length + 1 = (t + 1) * 2 ^ (k + 1) := by
    rw [h1, Nat.pow_succ, Nat.mul_comm (2 ^ k) 2, ← Nat.mul_assoc]
    congr 1
    omega
  refine ⟨hk, hk, by rw [e]; exact Nat.mul_mod_left _ _, ?_⟩
  have e2 : (ls.length + 1) / 2 ^ (k + 1) = t + 1 := by rw [e]; exact Nat.mul_div_cancel _ hp
  rw [e2, hB.at_ k h.le (by rw [h3]; omega), h.nd, h2, h3]
  show _ = joinN _ (nodeN (ls ++ [x]) k (2 * t)) (nodeN (ls ++ [x]) k (2 * t + 1))
  rw [nodeN_app ls [x] k (2 * t) (by
    have e3 : (2 * t + 1 + 1) * 2 ^ k = (2 * t + 1) * 2 ^ k + 2 ^ k := by rw [Nat.add_mul (2 * t + 1) 1, Nat.one_mul]
    have hp2 : 0 < 2 ^ k := Nat.pow_pos (by decide)
    omega)]
  congr 1
theorem BUp.done {ls ns : List Nd} {x y : Nd} {k : Nat} (h : BUp ls x k y) (hB : BInv ls ns) (hb : ls.length / 2 ^ k % 2 ≠ 1) : BInv (ls ++ [x]) (ns.set k y) := by
  obtain ⟨q, h1, h2, h3⟩ := up_q h.dvd
  have hlen := hB.len
  have hk := h.le
  refine ⟨by rw [List.length_set]; exact hlen, fun j hj hbj => ?_⟩
  rw [List.length_append, List.length_singleton] at hbj ⊢
  rcases Nat.lt_trichotomy j k with hjk | rfl | hjk
  · exfalso
    obtain ⟨d, rfl⟩ : ∃ d, k = j + (d + 1) := ⟨k - j - 1, by omega⟩
    have hp : 0 < 2 ^ j := Nat.pow_pos (by decide)
    have e : ls.length + 1 = ((q + 1) * 2 ^ d * 2) * 2 ^ j := by
      rw [h1, show j + (d + 1) = d + 1 + j by omega, Nat.pow_add, Nat.pow_succ, Nat.mul_assoc, Nat.mul_assoc, Nat.mul_assoc]
    rw [e, Nat.mul_div_cancel _ hp] at hbj
    omega
  · rw [List.getD_eq_getElem?_getD, List.getElem?_set_self (by omega)]
    exact h.nd
  · rw [List.getD_eq_getElem?_getD, List.getElem?_set_ne (by omega), ← List.getD_eq_getElem?_getD]
    have e : (ls.length + 1) / 2 ^ j = ls.length / 2 ^ j := by
      obtain ⟨d, rfl⟩ : ∃ d, j = k + 1 + d := ⟨j - k - 1, by omega⟩
      have a : ∀ n, n / 2 ^ (k + 1 + d) = n / 2 ^ k / 2 / 2 ^ d := fun n => by rw [Nat.pow_add, Nat.pow_succ, ← Nat.div_div_eq_div_mul, ← Nat.div_div_eq_div_mul]
      rw [h3] at hb
      rw [a, a, h2, h3, show (q + 1) / 2 = q / 2 by omega]
    rw [e] at hbj ⊢
    rw [hB.at_ j hj hbj, nodeN_app]
    rw [Nat.sub_add_cancel (by generalize ls.length / 2 ^ j = z at hbj; omega)]
    exact Nat.div_mul_le_self _ _
/-- The nodes of those levels that a number has, the highest first: m levels from level 10 down. -/
def pendL (f : Nat → Nd) (c : Nat) : Nat → List Nd
  | 0 => []
  | m + 1 => pendL f c m ++ (if c / 2 ^ (10 - m) % 2 = 1 then [f (10 - m)] else [])
theorem pendL_length (f : Nat → Nd) (c : Nat) : ∀ m, (pendL f c m).length ≤ m
  | 0 => by simp [pendL]
  | m + 1 => by
    have := pendL_length f c m
    simp only [pendL, List.length_append]
    split <;> simp <;> omega
theorem pendL_congr {f g : Nat → Nd} {c : Nat} (h : ∀ k, k ≤ 10 → c / 2 ^ k % 2 = 1 → f k = g k) : ∀ m, pendL f c m = pendL g c m
  | 0 => rfl
  | m + 1 => by
    simp only [pendL, pendL_congr h m]
    split
    · rename_i hb
      rw [h _ (by omega) hb]
    · rfl
def pendF (ls : List Nd) : List Nd := pendL (fun k => nodeN ls k (ls.length / 2 ^ k - 1)) ls.length 11
theorem BInv.pend {ls ns : List Nd} (h : BInv ls ns) : pendL (fun k => ns.getD k nd0) ls.length 11 = pendF ls := pendL_congr (fun k hk hb => h.at_ k hk hb) 11
/-- The root, of a full tree. -/
theorem BInv.root {ls ns : List Nd} (h : BInv ls ns) (hc : chkE ls.length = 0) : ns.getD (Nat.log2 ls.length) nd0 = rootN ls := by
  obtain ⟨k, hk, he, hlog⟩ := chkE_yes hc
  have hp : 0 < 2 ^ k := Nat.pow_pos (by decide)
  have e : ls.length / 2 ^ k = 1 := by rw [he]; exact Nat.div_self hp
  unfold rootN
  rw [if_pos hc, hlog, h.at_ k hk (by rw [e]), e, ← rootH_node ls k he]
end Go.Lin
namespace Go.Lin
open Go
theorem bits_and1' : ∀ x : Fin 1025, (bits BinOp.and IntKind.i64 (x.val : Int) 1 == 1) = decide (x.val % 2 = 1) := by decide +kernel
theorem bits_lev (n k : Nat) (hn : n ≤ 1024) : (bits BinOp.and IntKind.i64 ((n : Int) / 2 ^ k) 1 == 1) = decide (n / 2 ^ k % 2 = 1) := by
  have h1 : n / 2 ^ k ≤ n := Nat.div_le_self _ _
  have h := bits_and1' ⟨n / 2 ^ k, by omega⟩
  have e : (n : Int) / 2 ^ k = ((n / 2 ^ k : Nat) : Int) := by simp
  rw [e]
  exact h
end Go.Lin
namespace Go.Proofs.YtcfojkecmchbdaaDoor
open Go Go.RowKit Go.Bul Go.Thg Go.Lin
set_option maxRecDepth 20000 in
set_option maxHeartbeats 4000000 in
theorem add_any {w0 w : World} {L : List Ent} {R : List Thing} {g : Nat} (lv ns : List Nd) (x : Nd) (hM : Mem [] w0 (⟨g, 72, 177, bldC ns (lv.length : Nat)⟩ :: L) R w) (hB : BInv lv ns) (hl : lv.length < 1024) (hT : Tab w0) :
    Calls Tryd.prog 33 #[.pointer (some ⟨g, 0, none⟩), .agg (ndC x)] w fun e w' => ∃ ns', BInv (lv ++ [x]) ns' ∧ e = .returned (.int .i64 0) ∧ Mem [] w0 (⟨g, 72, 177, bldC ns' ((lv ++ [x]).length : Nat)⟩ :: L) R w' := by
  have HT := Lib.hid (fun w' (hb : Below w0.heap.size w0 w') => hT.keep hb)
  have HB := Lib.hid hB
  have hlen := hB.len
  obtain ⟨n, hn⟩ : ∃ n, lv.length = n := ⟨_, rfl⟩
  have HN := Lib.hid hn
  rw [hn] at hM hl
  have HCN := Lib.hid (bldC_cnt (n : Int) hlen)
  have HND := Lib.hid (bldC_nd (n : Int) hlen)
  have HSN := Lib.hid (fun k hk y => bldC_setn (n : Int) hlen k hk y)
  have HLE := Lib.hid hlen
  have n0 : (0 : Int) ≤ (n : Int) := Int.natCast_nonneg _
  have n1 : (n : Int) < 1024 := by omega
  have q1 : ((n : Int) == 1024) = false := by simp; omega
  have q2 : (n == 1024) = false := by simp; omega
  have hw : IntKind.i64.wrap ((n : Int) + 1) = (n : Int) + 1 := IntWalk.i64_in _ ⟨by omega, by omega⟩
  clear hT hB hlen hn hl
  go_enter Tryd.func33, Tryd.ntmps33
  go_wp2_with (first | ((with_reducible refine at_load ?_); refine lc hM ?_ (hv := HCN.out)) | ((first | with_reducible refine at_load ?_ | ((with_reducible refine at_load_g ?_ ?_); (· rfl))); first | refine ll hM ?_ | refine lc hM ?_ | refine lp hM ?_) | ((with_reducible refine at_store ?_); first | (refine lw hM ?_; clear hM; intro wx hM) | (refine ls hM ?_; clear hM; intro wx hM) | (refine lt hM ?_; clear hM; intro wx hM)) | ((with_reducible refine at_alloc ?_); refine lz hM ?_; clear hM; intro gx wx hM) | ((with_reducible refine at_box ?_); refine lb hM ?_; clear hM; intro gx wx hM))
  obtain ⟨g5, hg5⟩ := hM.name1
  subst hg5
  obtain ⟨g3, hg3⟩ := (hM.subL (List.sublist_cons_self _ _)).name1
  subst hg3
  have M0 := Lib.hid hM
  clear hM
  go_loopw [6] (fun i wr => ∃ (k : Nat) (y : Nd), BUp lv x k y ∧ i = .int .i64 (k : Nat) ∧ Mem [] w0 (⟨g5, 27, 16, ndC y⟩ :: ⟨g3, 27, 16, ndC x⟩ :: ⟨g, 72, 177, bldC ns (n : Nat)⟩ :: L) R wr) (fun i _ => 11 - (intOf i).toNat)
  case atStart => exact ⟨0, x, BUp.start lv x, rfl, M0.out⟩
  case round =>
    clear M0
    obtain ⟨k, y, hU, rfl, hM⟩ := hrel
    have hk := hU.le
    have hbl := bits_lev n k (by omega)
    have k0 : (0 : Int) ≤ (k : Int) := Int.natCast_nonneg _
    have k1 : (k : Int) < 11 := by omega
    have k2 : k < 11 := by omega
    have HU := Lib.hid hU
    have HNDK := Lib.hid (HND.out k k2)
    by_cases hb : n / 2 ^ k % 2 = 1
    · rw [decide_eq_true hb] at hbl
      obtain ⟨hk1, hU1⟩ := hU.step HB.out (by rw [HN.out]; exact hb) (by rw [HN.out]; omega)
      have HJ := Lib.hid (fun w' (h : Below w0.heap.size w0 w') => join_any (((k + 1 : Nat)) : Int) (ns.getD k nd0) y w' (HT.out w' h))
      rw [show ((k + 1 : Nat) : Int) = (k : Int) + 1 by omega] at HJ hU1
      generalize joinN ((k : Int) + 1) (ns.getD k nd0) y = Z at HJ hU1
      generalize ns.getD k nd0 = Y at HNDK HJ
      have HU1 := Lib.hid hU1
      have hw2 : IntKind.i64.wrap ((k : Int) + 1) = (k : Int) + 1 := IntWalk.i64_in _ ⟨by omega, by omega⟩
      clear hU hU1 hb
      go_upto_region 7 with (first | ((with_reducible refine at_load ?_); refine lc hM ?_ (hv := HCN.out)) | ((first | with_reducible refine at_load ?_ | ((with_reducible refine at_load_g ?_ ?_); (· rfl))); first | refine ll hM ?_ | refine lc hM ?_ | refine lp hM ?_) | ((with_reducible refine at_store ?_); first | (refine lw hM ?_; clear hM; intro wx hM) | (refine ls hM ?_; clear hM; intro wx hM) | (refine lt hM ?_; clear hM; intro wx hM)) | ((with_reducible refine at_alloc ?_); refine lz hM ?_; clear hM; intro gx wx hM) | ((with_reducible refine at_box ?_); refine lb hM ?_; clear hM; intro gx wx hM))
      refine wp_region_allTM hM 10 (HeldM [⟨g5, 27, 16, ndC y⟩, ⟨g3, 27, 16, ndC x⟩, ⟨g, 72, 177, bldC ns (n : Nat)⟩]) (by kernel_rfl) ?_
      clear hM
      intro wd hM
      have hS := HeldM.of (hM.subL (L' := [_, _, _]) (List.Sublist.cons_cons _ (List.Sublist.cons_cons _ (List.Sublist.cons_cons _ (List.nil_sublist _)))))
      refine wpAllT_takes [0, 1, 2, 3, 4, 5, 6, 7, 8] (by kernel_rfl) (fun _ _ _ _ _ h => h) hS (by kernel_rfl) ?_
      simp only [pickOps, List.filterMap_cons, List.filterMap_nil, List.getElem?_cons_zero, List.getElem?_cons_succ]
      repeat ((with_reducible apply wpHeld_step); (· rfl); (· (intro wq hSw; first | (go_simp; rfl) | ((obtain ⟨_, _, _, hM'⟩ := hSw; first | exact yields_load (C := fun _ => True) (qp hM' (hX := HNDK.out) (hty := row_nd)) rfl | exact yields_load (C := fun _ => True) (ql hM') rfl)))); intro K hK; go_simp; (with_reducible refine hK _ ?_); clear hK K)
      refine wpHeld_nil ?_
      refine wpAllT_one 9 rfl (by kernel_rfl) ?_
      go_wp2_with fail
      refine (HJ.out _ hM.below).mono ?_
      rintro e w1 ⟨rfl, hb⟩
      replace hM := hM.step hb
      clear hb hS
      have hS := HeldM.of (hM.subL (L' := [_, _, _]) (List.Sublist.cons_cons _ (List.Sublist.cons_cons _ (List.Sublist.cons_cons _ (List.nil_sublist _)))))
      go_wp2_with fail
      refine then_normal ⟨.inr hS, ?_⟩
      refine wpAllT_one 10 rfl (by kernel_rfl) ?_
      refine lw hM ?_
      clear hM hS
      intro wy hM
      refine wpList_then ⟨.inl (by kernel_rfl), wpAllT_drop (by kernel_rfl) ?_⟩
      refine wpAll_done (by kernel_rfl) ?_
      go_wp2_with fail
      exact ⟨⟨k + 1, Z, HU1.out, by go_num, hM⟩, by simp [intOf]; omega⟩
    · rw [decide_eq_false hb] at hbl
      have hD := hU.done HB.out (by rw [HN.out]; exact hb)
      have HD := Lib.hid hD
      have HNL := Lib.hid hD.len
      have HSK := Lib.hid (HSN.out k k2 y)
      have HSC := Lib.hid (bldC_setc (n : Int) ((n : Int) + 1) hD.len)
      have HCN2 := Lib.hid (bldC_cnt (n : Int) hD.len)
      clear hU hb hD
      go_upto_region 9 with (first | ((with_reducible refine at_load ?_); refine lc hM ?_ (hv := HCN.out)) | ((first | with_reducible refine at_load ?_ | ((with_reducible refine at_load_g ?_ ?_); (· rfl))); first | refine ll hM ?_ | refine lc hM ?_ | refine lp hM ?_) | ((with_reducible refine at_store ?_); first | (refine lw hM ?_; clear hM; intro wx hM) | (refine ls hM ?_; clear hM; intro wx hM) | (refine lt hM ?_; clear hM; intro wx hM)) | ((with_reducible refine at_alloc ?_); refine lz hM ?_; clear hM; intro gx wx hM) | ((with_reducible refine at_box ?_); refine lb hM ?_; clear hM; intro gx wx hM))
      refine wp_region_allTM hM 6 (HeldM [⟨g5, 27, 16, ndC y⟩]) (by kernel_rfl) ?_
      clear hM
      intro wd hM
      have hS := HeldM.of (hM.subL (L' := [_]) (List.Sublist.cons_cons _ (List.nil_sublist _)))
      refine wpAllT_takes [0, 1, 3, 4, 2, 5] (by kernel_rfl) (fun _ _ _ _ _ h => h) hS (by kernel_rfl) ?_
      simp only [pickOps, List.filterMap_cons, List.filterMap_nil, List.getElem?_cons_zero, List.getElem?_cons_succ]
      repeat ((with_reducible apply wpHeld_step); (· rfl); (· (intro wq hSw; first | (go_simp; rfl) | ((obtain ⟨_, _, _, hM'⟩ := hSw; exact yields_load (C := fun _ => True) (ql hM') rfl)))); intro K hK; go_simp; (with_reducible refine hK _ ?_); clear hK K)
      refine wpHeld_nil ?_
      refine wpAllT_one 6 rfl (by kernel_rfl) ?_
      refine lt hM ?_ (hX := HSK.out)
      clear hM hS
      intro wy hM
      refine wpList_then ⟨.inl (by kernel_rfl), wpAllT_drop (by kernel_rfl) ?_⟩
      refine wpAll_done (by kernel_rfl) ?_
      go_wp2_with (first | ((with_reducible refine at_load ?_); refine lc hM ?_ (hv := HCN2.out)) | ((with_reducible refine at_store ?_); refine ls hM ?_ (hX := HSC.out); clear hM; intro wx hM) | ((first | with_reducible refine at_load ?_ | ((with_reducible refine at_load_g ?_ ?_); (· rfl))); first | refine ll hM ?_ | refine lc hM ?_ | refine lp hM ?_) | ((with_reducible refine at_store ?_); first | (refine lw hM ?_; clear hM; intro wx hM) | (refine ls hM ?_; clear hM; intro wx hM) | (refine lt hM ?_; clear hM; intro wx hM)) | ((with_reducible refine at_alloc ?_); refine lz hM ?_; clear hM; intro gx wx hM) | ((with_reducible refine at_box ?_); refine lb hM ?_; clear hM; intro gx wx hM))
      go_ret
      have hM2 := hM.subL (L' := ⟨g, 72, 177, bldC (ns.set k y) ((n : Int) + 1)⟩ :: L) (List.Sublist.cons _ (List.Sublist.cons _ (List.Sublist.refl _)))
      refine ⟨_, HD.out, rfl, ?_⟩
      rw [show ((lv ++ [x]).length : Int) = (n : Int) + 1 by have := HN.out; simp; omega]
      exact hM2
end Go.Proofs.YtcfojkecmchbdaaDoor
namespace Go.Proofs.YtcfojkecmchbdaaDoor
open Go Go.RowKit Go.Bul Go.Thg Go.Lin
set_option maxRecDepth 20000 in
set_option maxHeartbeats 4000000 in
theorem ones64 (n : Nat) (w : World) (hn : n ≤ 1024) :
    Calls Tryd.prog 53 #[.int .u64 (n : Nat)] w fun e w' => (∃ z, e = .returned (.int .i64 z) ∧ (z == 1) = decide (chkE n = 0)) ∧ w = w' := by
  go_enter Tryd.func53, Tryd.ntmps53
  go_wp2_with fail
  go_ret
  refine ⟨⟨_, rfl, ?_⟩, rfl⟩
  obtain ⟨x, rfl⟩ : ∃ x : Fin 1025, x.val = n := ⟨⟨n, by omega⟩, rfl⟩
  clear hn
  revert x
  decide +kernel
set_option maxRecDepth 20000 in
set_option maxHeartbeats 4000000 in
theorem ones_any (n : Nat) (w : World) (hn : n ≤ 1024) :
    Calls Tryd.prog 45 #[.int .u64 (n : Nat)] w fun e w' => (∃ z, e = .returned (.int .i64 z) ∧ (z == 1) = decide (chkE n = 0)) ∧ w = w' := by
  have hw : IntKind.u64.wrap (n : Int) = (n : Int) := by
    obtain ⟨x, rfl⟩ : ∃ x : Fin 1025, x.val = n := ⟨⟨n, by omega⟩, rfl⟩
    clear hn
    revert x
    decide +kernel
  have HO := Lib.hid (fun w' => ones64 n w' hn)
  clear hn
  go_enter Tryd.func45, Tryd.ntmps45
  go_wp2_with ((with_reducible refine (HO.out _).mono ?_); rintro e w1 ⟨⟨z, rfl, hz⟩, rfl⟩)
  go_ret
  exact ⟨⟨z, rfl, hz⟩, rfl⟩
def dbjL : List Nat := [0, 1, 56, 2, 57, 49, 28, 3, 61, 58, 42, 50, 38, 29, 17, 4, 62, 47, 59, 36, 45, 43, 51, 22, 53, 39, 33, 30, 24, 18, 12, 5, 63, 55, 48, 27, 60, 41, 37, 16, 46, 35, 44, 21, 52, 32, 23, 11, 54, 26, 40, 15, 34, 20, 31, 10, 25, 14, 19, 9, 13, 8, 7, 6]
/-- The table of math/bits as it was laid. -/
def Dbj (w : World) : Prop := ∀ i, i < 64 → w.cell? ⟨1, i, none⟩ = some (.int .u8 (dbjL.getD i 0 : Nat))
set_option maxRecDepth 20000 in
set_option maxHeartbeats 4000000 in
theorem zeros64 (h : Nat) (w : World) (hh : h ≤ 10) (hD : Dbj w) :
    Calls Tryd.prog 55 #[.int .u64 ((2 ^ h : Nat) : Int)] w fun e w' => e = .returned (.int .i64 (h : Nat)) ∧ w = w' := by
  have HD := Lib.hid hD
  clear hD
  rcases (show h = 0 ∨ h = 1 ∨ h = 2 ∨ h = 3 ∨ h = 4 ∨ h = 5 ∨ h = 6 ∨ h = 7 ∨ h = 8 ∨ h = 9 ∨ h = 10 by omega) with rfl | rfl | rfl | rfl | rfl | rfl | rfl | rfl | rfl | rfl | rfl
  · have HC : Hid (w.cell? ⟨1, 0, none⟩ = some (.int .u8 0)) := Lib.hid (HD.out 0 (by decide))
    clear HD
    go_enter Tryd.func55, Tryd.ntmps55
    go_wp2_with ((with_reducible refine at_load ?_); refine lo HC.out ?_ (hx := by kernel_rfl) (hty := one_u8))
    go_ret
    exact ⟨rfl, rfl⟩
  · have HC : Hid (w.cell? ⟨1, 1, none⟩ = some (.int .u8 1)) := Lib.hid (HD.out 1 (by decide))
    clear HD
    go_enter Tryd.func55, Tryd.ntmps55
    go_wp2_with ((with_reducible refine at_load ?_); refine lo HC.out ?_ (hx := by kernel_rfl) (hty := one_u8))
    go_ret
    exact ⟨rfl, rfl⟩
  · have HC : Hid (w.cell? ⟨1, 3, none⟩ = some (.int .u8 2)) := Lib.hid (HD.out 3 (by decide))
    clear HD
    go_enter Tryd.func55, Tryd.ntmps55
    go_wp2_with ((with_reducible refine at_load ?_); refine lo HC.out ?_ (hx := by kernel_rfl) (hty := one_u8))
    go_ret
    exact ⟨rfl, rfl⟩
  · have HC : Hid (w.cell? ⟨1, 7, none⟩ = some (.int .u8 3)) := Lib.hid (HD.out 7 (by decide))
    clear HD
    go_enter Tryd.func55, Tryd.ntmps55
    go_wp2_with ((with_reducible refine at_load ?_); refine lo HC.out ?_ (hx := by kernel_rfl) (hty := one_u8))
    go_ret
    exact ⟨rfl, rfl⟩
  · have HC : Hid (w.cell? ⟨1, 15, none⟩ = some (.int .u8 4)) := Lib.hid (HD.out 15 (by decide))
    clear HD
    go_enter Tryd.func55, Tryd.ntmps55
    go_wp2_with ((with_reducible refine at_load ?_); refine lo HC.out ?_ (hx := by kernel_rfl) (hty := one_u8))
    go_ret
    exact ⟨rfl, rfl⟩
  · have HC : Hid (w.cell? ⟨1, 31, none⟩ = some (.int .u8 5)) := Lib.hid (HD.out 31 (by decide))
    clear HD
    go_enter Tryd.func55, Tryd.ntmps55
    go_wp2_with ((with_reducible refine at_load ?_); refine lo HC.out ?_ (hx := by kernel_rfl) (hty := one_u8))
    go_ret
    exact ⟨rfl, rfl⟩
  · have HC : Hid (w.cell? ⟨1, 63, none⟩ = some (.int .u8 6)) := Lib.hid (HD.out 63 (by decide))
    clear HD
    go_enter Tryd.func55, Tryd.ntmps55
    go_wp2_with ((with_reducible refine at_load ?_); refine lo HC.out ?_ (hx := by kernel_rfl) (hty := one_u8))
    go_ret
    exact ⟨rfl, rfl⟩
  · have HC : Hid (w.cell? ⟨1, 62, none⟩ = some (.int .u8 7)) := Lib.hid (HD.out 62 (by decide))
    clear HD
    go_enter Tryd.func55, Tryd.ntmps55
    go_wp2_with ((with_reducible refine at_load ?_); refine lo HC.out ?_ (hx := by kernel_rfl) (hty := one_u8))
    go_ret
    exact ⟨rfl, rfl⟩
  · have HC : Hid (w.cell? ⟨1, 61, none⟩ = some (.int .u8 8)) := Lib.hid (HD.out 61 (by decide))
    clear HD
    go_enter Tryd.func55, Tryd.ntmps55
    go_wp2_with ((with_reducible refine at_load ?_); refine lo HC.out ?_ (hx := by kernel_rfl) (hty := one_u8))
    go_ret
    exact ⟨rfl, rfl⟩
  · have HC : Hid (w.cell? ⟨1, 59, none⟩ = some (.int .u8 9)) := Lib.hid (HD.out 59 (by decide))
    clear HD
    go_enter Tryd.func55, Tryd.ntmps55
    go_wp2_with ((with_reducible refine at_load ?_); refine lo HC.out ?_ (hx := by kernel_rfl) (hty := one_u8))
    go_ret
    exact ⟨rfl, rfl⟩
  · have HC : Hid (w.cell? ⟨1, 55, none⟩ = some (.int .u8 10)) := Lib.hid (HD.out 55 (by decide))
    clear HD
    go_enter Tryd.func55, Tryd.ntmps55
    go_wp2_with ((with_reducible refine at_load ?_); refine lo HC.out ?_ (hx := by kernel_rfl) (hty := one_u8))
    go_ret
    exact ⟨rfl, rfl⟩
set_option maxRecDepth 20000 in
set_option maxHeartbeats 4000000 in
theorem zeros_any (h : Nat) (w : World) (hh : h ≤ 10) (hD : Dbj w) :
    Calls Tryd.prog 46 #[.int .u64 ((2 ^ h : Nat) : Int)] w fun e w' => e = .returned (.int .i64 (h : Nat)) ∧ w = w' := by
  have hp : 2 ^ h ≤ 2 ^ 10 := Nat.pow_le_pow_right (by decide) hh
  have HZ := Lib.hid (fun (w : World) (hD : Dbj w) => zeros64 h w hh hD)
  generalize 2 ^ h = n at hp HZ
  have hw : IntKind.u64.wrap (n : Int) = (n : Int) := IntWalk.u64_in _ (by omega)
  have HD := Lib.hid hD
  clear hh hp hD
  go_enter Tryd.func46, Tryd.ntmps46
  go_wp2_with ((with_reducible refine (HZ.out _ HD.out).mono ?_); rintro e w1 ⟨rfl, rfl⟩)
  go_ret
  exact ⟨rfl, rfl⟩
end Go.Proofs.YtcfojkecmchbdaaDoor
