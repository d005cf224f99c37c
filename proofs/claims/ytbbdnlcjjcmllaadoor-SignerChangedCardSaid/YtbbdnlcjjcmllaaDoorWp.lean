/- A byte of a signature that is changed: plain laws; a row of nodes as a block. The walk of bulletinlaw08.SignerChanged. SignerChanged: what came in. -/
import Derived.Test.YtbbdnlcjjcmllaaDoorVv
import Derived.Test.YtbbdnlcjjcmllaaDoorVm
import Derived.Test.YtbbdnlcjjcmllaaDoorWo
import Derived.Test.YtbbdnlcjjcmllaaDoorWk
import Derived.Test.YtbbdnlcjjcmllaaDoorSvf
import Derived.Test.YtbbdnlcjjcmllaaDoorSvg
import Derived.Deep.Cut
import Derived.Deep.CutRange
import Derived.Deep.CutBlock
import Derived.Deep.DeepCutAuto
import Derived.Test.YtbbdnlcjjcmllaaDoorSfa
namespace Go.Thg
open Go Go.RowKit Go.Bul
/-- A row that is not empty, as a block whose cells are known. -/
theorem Mem.openRow {G : List Nat} {w0 w : World} {L : List Ent} {R : List Thing} {e : TypeId} {sz n c : Nat} {A : Option Addr} {xs : List Value} (hM : Mem G w0 L (rowT e sz (.slice A n c) n xs :: R) w) (hn : 0 < n) :
    ∃ g off cur, A = some ⟨g, off, none⟩ ∧ off + n * sz ≤ cur.size ∧ (∀ j, j < n * sz → cur[off + j]? = xs[j]?) ∧ Mem G w0 (⟨g, e, cur.size, cur⟩ :: L) R w := by
  have h := hM.thing _ (List.Mem.head _)
  have h' : OffRow w e sz (.slice A n c) n xs := h
  obtain ⟨_, A', c', he, h2, h3, h4⟩ := h'
  have e1 : A = A' := by injection he
  have e2 : c = c' := by injection he
  subst e1 e2
  obtain ⟨g, off, cur, rfl, h5, h6, h7⟩ := h4 (by omega)
  have hmul : n * sz ≤ c * sz := Nat.mul_le_mul_right _ h2
  refine ⟨g, off, cur, rfl, by omega, h7, hM.repack (fun b hb => ?_) (fun r hr => hM.thing r (List.Mem.tail _ hr)) ?_⟩
  · rcases List.mem_cons.1 hb with rfl | hb
    · exact ⟨h5, rfl⟩
    · exact hM.blk_ b hb
  · show List.Perm (g :: (L.map (·.g) ++ R.flatMap (·.fp))) (L.map (·.g) ++ (sFp (.slice (some ⟨g, off, none⟩) n c) ++ R.flatMap (·.fp)))
    rw [sFp_pos (by omega)]
    exact List.perm_middle.symm
theorem xor_lt8 (x y : Nat) (hx : x < 256) (hy : y < 256) : x ^^^ y < 256 := Nat.xor_lt_two_pow (n := 8) hx hy
theorem set_xor_ne {a : List Nat} {i y : Nat} (hi : i < a.length) (hy : 0 < y) : a.set i (nth a i ^^^ y) ≠ a := by
  intro he
  have h1 : (a.set i (nth a i ^^^ y))[i]? = some (nth a i ^^^ y) := by simp [hi]
  rw [he, List.getElem?_eq_getElem hi] at h1
  have h2 := Option.some.inj h1
  have h3 : nth a i = a[i] := by simp [nth, List.getD, hi]
  rw [h3] at h2
  have h4 : a[i] ^^^ (a[i] ^^^ y) = a[i] ^^^ a[i] := by rw [← h2]
  rw [← Nat.xor_assoc, Nat.xor_self, Nat.zero_xor] at h4
  omega
theorem bytes_set' {a : List Nat} (ha : Bytes a) (i v : Nat) (hv : v < 256) : Bytes (a.set i v) := by
  intro x hx
  rcases List.mem_or_eq_of_mem_set hx with h | rfl
  · exact ha x h
  · exact hv
theorem nth_lt8 {a : List Nat} (ha : Bytes a) (i : Nat) : nth a i < 256 := ha.getD i
end Go.Thg
namespace Go.Lin
open Go Go.Bul Go.Thg
/-- A node, a list of chains with one byte xored. -/
def ndX (a : Nd) (i b : Nat) (hb : b < 256) : Nd := ⟨a.val.set i (nth a.val i ^^^ b), by rw [List.length_set, a.len], bytes_set' a.byt _ _ (xor_lt8 _ _ (nth_lt8 a.byt _) hb)⟩
def chX (a : Ch) (i b : Nat) (hb : b < 256) : Ch := ⟨a.val.set i (nth a.val i ^^^ b), by rw [List.length_set, a.len], bytes_set' a.byt _ _ (xor_lt8 _ _ (nth_lt8 a.byt _) hb)⟩
theorem ndX_ne {a : Nd} {i b : Nat} {hb : b < 256} (hi : i < 16) (h0 : 0 < b) : ndX a i b hb ≠ a := fun h => set_xor_ne (a := a.val) (i := i) (by rw [a.len]; exact hi) h0 (congrArg Nd.val h)
theorem chX_ne {a : Ch} {i b : Nat} {hb : b < 256} (hi : i < 560) (h0 : 0 < b) : chX a i b hb ≠ a := fun h => set_xor_ne (a := a.val) (i := i) (by rw [a.len]; exact hi) h0 (congrArg Ch.val h)
theorem sigC_byte (leaf : Int) (ch : Ch) (A : Option Addr) (n c i : Nat) (hi : i < 560) : (sigC leaf ch A n c)[1 + i]? = some (.int .u8 (nth ch.val i : Nat)) := by
  have := ch_len ch
  have hl := ch.len
  simp only [sigC, List.getElem?_toArray, Nat.add_comm 1 i, List.getElem?_cons_succ]
  rw [List.getElem?_append_left (by omega), vals, List.getElem?_map, List.getElem?_eq_getElem (by omega)]
  simp [nth, List.getD, hl, hi]
theorem sigC_set (leaf : Int) (ch : Ch) (A : Option Addr) (n c i b : Nat) (hb : b < 256) (hi : i < 560) : (sigC leaf ch A n c).setIfInBounds (1 + i) (.int .u8 (nth ch.val i ^^^ b : Nat)) = sigC leaf (chX ch i b hb) A n c := by
  have := ch_len ch
  apply Array.ext'
  simp only [sigC, List.setIfInBounds_toArray, Nat.add_comm 1 i, List.set_cons_succ]
  rw [List.set_append_left _ _ (by omega)]
  simp only [vals, chX, List.map_set]
/-- Rows with one byte changed. -/
def rowX (l : List Nd) (i j b : Nat) (hb : b < 256) : List Nd := l.set i (ndX (l.getD i nd0) j b hb)
theorem rowX_length (l : List Nd) (i j b : Nat) (hb : b < 256) : (rowX l i j b hb).length = l.length := List.length_set
theorem rowX_ne {l : List Nd} {i j b : Nat} {hb : b < 256} (hi : i < l.length) (hj : j < 16) (h0 : 0 < b) : rowX l i j b hb ≠ l := by
  intro he
  have h1 : (rowX l i j b hb)[i]? = some (ndX (l.getD i nd0) j b hb) := by simp [rowX, hi]
  rw [he, List.getElem?_eq_getElem hi] at h1
  have h2 : l.getD i nd0 = l[i] := by simp [List.getD, hi]
  rw [h2] at h1
  exact ndX_ne hj h0 (Option.some.inj h1).symm
theorem ndCells_cons' (x : Nd) (l : List Nd) : ndCells (x :: l) = vals .u8 x.val ++ ndCells l := by simp [ndCells]
theorem ndCells_byte : ∀ (l : List Nd) (i j : Nat), i < l.length → j < 16 → (ndCells l)[i * 16 + j]? = some (.int .u8 (nth (l.getD i nd0).val j : Nat))
  | [], _, _, h, _ => absurd h (Nat.not_lt_zero _)
  | x :: l, 0, j, _, hj => by
    have hl := x.len
    have h16 : (vals .u8 x.val).length = 16 := by rw [vals_length, hl]
    rw [ndCells_cons', Nat.zero_mul, Nat.zero_add, List.getElem?_append_left (by omega), vals, List.getElem?_map, List.getElem?_eq_getElem (by omega)]
    simp [nth, List.getD, hl, hj]
  | x :: l, i + 1, j, h, hj => by
    have h16 : (vals .u8 x.val).length = 16 := by rw [vals_length, x.len]
    rw [ndCells_cons', List.getElem?_append_right (by omega), h16, show (i + 1) * 16 + j - 16 = i * 16 + j by omega]
    exact ndCells_byte l i j (by simpa using h) hj
theorem ndCells_set : ∀ (l : List Nd) (i j : Nat) (v : Nat) (x : Nd), i < l.length → j < 16 → x.val = (l.getD i nd0).val.set j v → (ndCells l).set (i * 16 + j) (.int .u8 (v : Nat)) = ndCells (l.set i x)
  | [], _, _, _, _, h, _, _ => absurd h (Nat.not_lt_zero _)
  | y :: l, 0, j, v, x, _, hj, hx => by
    have h16 : (vals .u8 y.val).length = 16 := by rw [vals_length, y.len]
    rw [List.set_cons_zero, ndCells_cons', ndCells_cons', Nat.zero_mul, Nat.zero_add, List.set_append_left _ _ (by omega), hx]
    simp only [vals, List.map_set]
    rfl
  | y :: l, i + 1, j, v, x, h, hj, hx => by
    have h16 : (vals .u8 y.val).length = 16 := by rw [vals_length, y.len]
    rw [List.set_cons_succ, ndCells_cons', ndCells_cons', List.set_append_right _ _ (by omega), h16, show (i + 1) * 16 + j - 16 = i * 16 + j by omega]
    rw [ndCells_set l i j v x (by simpa using h) hj hx]
theorem rowX_cells {l : List Nd} {i j b : Nat} {hb : b < 256} (hi : i < l.length) (hj : j < 16) : (ndCells l).set (i * 16 + j) (.int .u8 (nth (l.getD i nd0).val j ^^^ b : Nat)) = ndCells (rowX l i j b hb) :=
  ndCells_set l i j _ _ hi hj rfl
end Go.Lin
namespace Go.Proofs.YtbbdnlcjjcmllaaDoor
open Go Go.RowKit Go.Bul Go.Thg Go.Lin
/-- The row of a signature's path, with a byte stored into its block. -/
theorem nin_rowX {w : World} {g off n : Nat} {t : TypeId} {cur X : Array Value} {l : List Nd} {i j b : Nat} {hb : b < 256} (hB : Blk w g t X) (hX : X = cur.setIfInBounds (off + (i * 16 + j)) (.int .u8 (nth (l.getD i nd0).val j ^^^ b : Nat)))
    (hsz : off + n * 16 ≤ cur.size) (hcur : ∀ m, m < n * 16 → cur[off + m]? = (ndCells l)[m]?) (hl : l.length = n) (hi : i < n) (hj : j < 16) : NIn w (some ⟨g, off, none⟩) n (rowX l i j b hb) := by
  refine ⟨by rw [ndCells_length, rowX_length, hl], fun _ => ⟨g, off, rfl, hB.lt, fun m u hu => ?_⟩⟩
  have hm : m < n * 16 := by
    have h1 := (List.getElem?_eq_some_iff.1 hu).1
    rw [ndCells_length, rowX_length, hl] at h1
    exact h1
  rw [hB.cell, ← hu, ← rowX_cells (by omega) hj, hX]
  by_cases he : m = i * 16 + j
  · subst he
    rw [List.getElem?_set_self (by rw [ndCells_length]; omega), Array.getElem?_setIfInBounds_self_of_lt (by omega)]
  · rw [List.getElem?_set_ne (by omega), Array.getElem?_setIfInBounds_ne (by omega), hcur m hm]
theorem xor_word (x y : Nat) (hx : x < 256) (hy : y < 256) : (BitVec.ofNat 8 x ^^^ BitVec.ofNat 8 y).toNat % 256 = x ^^^ y := by
  rw [BitVec.toNat_xor, BitVec.toNat_ofNat, BitVec.toNat_ofNat, Nat.mod_eq_of_lt (show x < 2 ^ 8 by omega), Nat.mod_eq_of_lt (show y < 2 ^ 8 by omega), Nat.mod_eq_of_lt (xor_lt8 x y hx hy)]
theorem xor_bits (x y : Nat) (hx : x < 256) (hy : y < 256) : bits BinOp.xor IntKind.u8 (x : Int) (y : Int) = ((x ^^^ y : Nat) : Int) := by
  rw [← xor_word x y hx hy]
  rfl
end Go.Proofs.YtbbdnlcjjcmllaaDoor
namespace Go.Proofs.YtbbdnlcjjcmllaaDoor
open Go Go.RowKit Go.Bul Go.Thg Go.Lin
theorem sc_mod (z h : Nat) (hz : z < 65536) (h1 : 1 ≤ h) (h8 : h ≤ 8) : ∃ q : Nat, (z : Int) % (560 + 16 * (h : Int)) = (q : Int) ∧ q < 560 + 16 * h := by
  have e : ((560 + 16 * h : Nat) : Int) = 560 + 16 * (h : Int) := by omega
  refine ⟨z % (560 + 16 * h), ?_, Nat.mod_lt _ (by omega)⟩
  rw [← e]
  omega
theorem sc_one {q : Nat} (h : q < 560) : ∃ c j, q = c * 16 + j ∧ c < 35 ∧ j < 16 ∧ (q : Int).tdiv 16 = (c : Int) ∧ (q : Int) / 16 = (c : Int) ∧ (q : Int).tmod 16 = (j : Int) ∧ (q : Int) % 16 = (j : Int) ∧ ((q : Int) < 560) ∧ IntKind.i64.wrap (c : Int) = (c : Int) ∧ (c : Int) < 35 ∧ (j : Int) < 16 ∧ (0 : Int) ≤ (c : Int) ∧ (0 : Int) ≤ (j : Int) := by
  refine ⟨q / 16, q % 16, by omega, by omega, by omega, ?_, by omega, ?_, by omega, by omega, IntWalk.i64_in _ (by omega), by omega, by omega, by omega, by omega⟩
  · rw [Int.tdiv_eq_ediv_of_nonneg (by omega)]; omega
  · rw [Int.tmod_eq_emod_of_nonneg (by omega)]; omega
theorem sc_two {q h : Nat} (h0 : ¬ q < 560) (hq : q < 560 + 16 * h) (hh : h ≤ 8) : ∃ c j i, q = c * 16 + j ∧ c = i + 35 ∧ i < h ∧ j < 16 ∧ (q : Int).tdiv 16 = (c : Int) ∧ (q : Int) / 16 = (c : Int) ∧ (q : Int).tmod 16 = (j : Int) ∧ (q : Int) % 16 = (j : Int) ∧ (¬ (q : Int) < 560) ∧ IntKind.i64.wrap (c : Int) = (c : Int) ∧ (c : Int) - 35 = (i : Int) ∧ IntKind.i64.wrap ((i : Nat) : Int) = (i : Int) ∧ (i : Int) < (h : Int) ∧ (j : Int) < 16 ∧ (0 : Int) ≤ (i : Int) ∧ (0 : Int) ≤ (j : Int) := by
  refine ⟨q / 16, q % 16, q / 16 - 35, by omega, by omega, by omega, by omega, ?_, by omega, ?_, by omega, by omega, IntWalk.i64_in _ (by omega), by omega, IntWalk.i64_in _ (by omega), by omega, by omega, by omega, by omega⟩
  · rw [Int.tdiv_eq_ediv_of_nonneg (by omega)]; omega
  · rw [Int.tmod_eq_emod_of_nonneg (by omega)]; omega
theorem sc_facts (x y z : Nat) (hy : y < 256) (hz : z < 65536) : ∃ h M k : Nat, 1 + x % 3 = h ∧ 1 ≤ h ∧ h ≤ 8 ∧ k < 2 ^ h ∧ k ≤ 65535 ∧ (2 : Int) ^ h = (M : Int) ∧ wrap64 (M : Int) = (M : Int) ∧ IntKind.i64.wrap (M : Int) = (M : Int) ∧ (y : Int) % (M : Int) = (k : Int) ∧ ¬ (M : Int) = 0 ∧ IntKind.i64.wrap (y : Int) = (y : Int) ∧ ((M : Int) == 0) = false ∧
    (0 : Int) ≤ (h : Int) ∧ (h : Int) ≤ 8 ∧ (0 : Int) ≤ (y : Int) ∧ (z : Int) < 65536 ∧ (0 : Int) ≤ (z : Int) % 16 ∧ (z : Int) % 16 < 16 := by
  have h3 : 1 + x % 3 ≤ 3 := by omega
  have hp : 2 ^ (1 + x % 3) ≤ 2 ^ 3 := Nat.pow_le_pow_right (by decide) h3
  have hp0 : 0 < 2 ^ (1 + x % 3) := Nat.pow_pos (by decide)
  have e : (2 : Int) ^ (1 + x % 3) = ((2 ^ (1 + x % 3) : Nat) : Int) := by simp
  refine ⟨1 + x % 3, 2 ^ (1 + x % 3), y % 2 ^ (1 + x % 3), rfl, by omega, by omega, Nat.mod_lt _ hp0, by omega, e, ?_⟩
  clear e
  generalize 2 ^ (1 + x % 3) = M at hp hp0
  refine ⟨by unfold wrap64; omega, IntWalk.i64_in _ (by omega), by omega, by omega, IntWalk.i64_in _ (by omega), by rw [beq_eq_false_iff_ne]; omega, by omega, by omega, by omega, by omega, by omega, by omega⟩
theorem sc_by {b : Nat} (h : ¬ b = 0) : ((b : Int) == 0) = false ∧ (b == 0) = false ∧ (¬ (b : Int) = 0) ∧ 0 < b := ⟨by rw [beq_eq_false_iff_ne]; omega, by rw [beq_eq_false_iff_ne]; omega, by omega, by omega⟩
theorem verE_two {h k : Nat} {r d : Nd} {ch : Ch} {path : List Nd} (h1 : 1 ≤ h) (hh : h ≤ 8) (hk : k < 2 ^ h) : verE (h : Nat) r d (k : Nat) ch h path = 0 ∨ verE (h : Nat) r d (k : Nat) ch h path = 17 := by
  unfold verE
  rw [if_neg (by rw [hE_ok h1 hh]; decide), if_neg (by rw [sgE_ok h1 hh hk]; decide)]
  by_cases hq : (h : Int) = h ∧ rootS (k : Int).toNat d ch path = r
  · rw [if_pos hq]; exact .inl rfl
  · rw [if_neg hq]; exact .inr rfl
set_option maxRecDepth 200000 in
set_option maxHeartbeats 8000000 in
theorem schg_any (s : Sd) (x y : Nat) (d : Nd) (z b : Nat) (w : World) (hx : x < 256) (hy : y < 256) (hz : z < 65536) (hb : b < 256) (hT : Tab w) (hA : Alp w) :
    Calls Tryd.prog 3 #[.agg (cellsOf .u8 s.val), .int .u8 (x : Nat), .int .u8 (y : Nat), .agg (ndC d), .int .u16 (z : Nat), .int .u8 (b : Nat)] w fun e w' => e = .returned (.bool true) ∧ Below w.heap.size w w' := by
  have hM := Mem.start [] w
  have HS := Lib.hid (show (cellsOf .u8 s.val).size = 32 by rw [cellsOf_size, s.len])
  have HK := Lib.hid (fun w' (hb : Below w.heap.size w w') => known_any w' (hT.keep hb) (hA.keep hb))
  have HLo := Lib.hid (fun w => low_any x w hx)
  by_cases hb0 : b = 0
  · have hbz : ((b : Int) == 0) = true := by rw [beq_iff_eq]; omega
    have hbn : (b == 0) = true := by rw [beq_iff_eq]; omega
    clear hT hA
    go_enter Tryd.func3, Tryd.ntmps3
    go_wp2_with (first | ((with_reducible refine at_box ?_); first | (refine slb hM ?_ (hty := row_a32) (hn := HS.out); clear hM; intro g4 w1 hM) | (refine slb hM ?_ (hty := row_a16) (hn := ndC_size _); clear hM; intro g7 w1 hM)) | ((with_reducible refine (HK.out _ hM.below).mono ?_); rintro e w1 ⟨rfl, hb⟩; replace hM := hM.step hb; clear hb))
    go_ret
    exact ⟨rfl, hM.below⟩
  · obtain ⟨hb1, hbn, hb2, hbp⟩ := sc_by hb0
    obtain ⟨h, M, k, hh, h1, h8, hkl, hk2, hM2, c4, c5, c6, c7, c8, c9, q0, q1, q2, i1, i2, i3⟩ := sc_facts x y z hy hz
    rw [hh] at HLo
    have HPB := Lib.hid (fun w' (hb : Below w.heap.size w w') => spub_yes s h w' h1 h8 (hT.keep hb))
    have HSN := Lib.hid (fun w' (hb : Below w.heap.size w w') => psign_yes s h k d w' h1 h8 hkl (hT.keep hb))
    have HV0 := Lib.hid (ver_sig s h k d h1 h8 hkl)
    have hlen := sibsF_length (lvsN s (2 ^ h)) k h
    generalize sgCh s k d = ch at HSN HV0
    generalize sibsF (lvsN s (2 ^ h)) k h = PA at HSN hlen HV0
    generalize rtN s h = r at HPB HV0
    have HVV := Lib.hid (fun (d' : Nd) (ch' : Ch) (A : Option Addr) (c : Nat) (path : List Nd) (w' : World) (hr : NIn w' A h path) (hb : Below w.heap.size w w') => gver_any (h : Nat) r d' (k : Nat) ch' A h c path w' hr (hT.keep hb))
    have HV2 := Lib.hid (fun (d' : Nd) (ch' : Ch) (path : List Nd) => verE_two (r := r) (d := d') (ch := ch') (path := path) h1 h8 hkl)
    have HBR := Lib.hid (fun (d' : Nd) (A : Option Addr) (c : Nat) (w' : World) (hv : verE (h : Nat) r d' (k : Nat) ch h PA = 0) (hr : NIn w' A h PA) (hne : d ≠ d') (hb : Below w.heap.size w w') => Once.break_same k h ch PA r d d' A c w' hlen h1 h8 hkl HV0.out hv hr hne (hT.keep hb))
    have HBB := Lib.hid (fun (V : Array Value) (w' : World) (hV : Once.BrOk k V) (hb : Below w.heap.size w w') => Once.broken_any k V w' hk2 hV (hT.keep hb))
    have HEV := Lib.hid (fun (ch' : Ch) (PB : List Nd) (A B : Option Addr) (cA cB : Nat) (w' : World) (hl : PB.length = h) (hv : verE (h : Nat) r d (k : Nat) ch' h PB = 0) (hrA : NIn w' A h PA) (hrB : NIn w' B h PB) (hne : ch ≠ ch' ∨ PA ≠ PB) (hb : Below w.heap.size w w') => Once.evid_any k h ch ch' PA PB r d A B cA cB w' hlen hl h1 h8 hkl HV0.out hv hrA hrB hne (hT.keep hb))
    have HOW := Lib.hid (fun (A : Option Addr) (c : Nat) (w' : World) (hr : NIn w' A h PA) => lown_any (k : Nat) ch A h c PA w' hr (Nat.le_trans h8 (by decide)))
    have HBK := Lib.hid (fun (A : Option Addr) (c : Nat) (w' : World) (hr : NIn w' A h PA) => lback_any (k : Nat) ch A h c PA w' hr (Nat.le_trans h8 (by decide)))
    obtain ⟨D, hD⟩ : ∃ D, D = ndX d (z % 16) b hb := ⟨_, rfl⟩
    have HX : Hid (d.val.set (z % 16) (nth d.val (z % 16) ^^^ b) = D.val) := Lib.hid (by rw [hD]; rfl)
    have HDN : Hid (d ≠ D) := Lib.hid (by rw [hD]; exact (ndX_ne (Nat.mod_lt _ (by decide)) hbp).symm)
    have hbx := xor_bits (nth d.val (z % 16)) b (nth_lt8 d.byt _) hb
    have HC := Lib.hid (And.intro h1 (And.intro h8 (And.intro hbp (And.intro hz hlen))))
    clear hT hA hkl hk2 hx hy hh h1 h8 hbp hz hlen hD
    go_enter Tryd.func3, Tryd.ntmps3
    go_wp2_with (first | ((with_reducible refine at_box ?_); first | (refine slb hM ?_ (hty := row_a32) (hn := HS.out); clear hM; intro g4 w1 hM) | (refine slb hM ?_ (hty := row_a16) (hn := ndC_size _); clear hM; intro g7 w1 hM)) | ((first | with_reducible refine at_load ?_ | ((with_reducible refine at_load_g ?_ ?_); (· rfl))); first | refine sll hM ?_ (hty := row_a16) | refine sll hM ?_ (hty := row_a32) | refine sll hM ?_ (hty := row_sec) | refine sll hM ?_ (hty := row_pub) | refine sll hM ?_ (hty := row_sgn)) | ((with_reducible refine (HK.out _ hM.below).mono ?_); rintro e w1 ⟨rfl, hb⟩; replace hM := hM.step hb; clear hb) | ((with_reducible refine (HLo.out _).mono ?_); rintro e w1 ⟨rfl, rfl⟩) | ((with_reducible refine at_build ?_); refine lbsec ?_) | ((with_reducible refine at_alloc ?_); first | (refine slz hM ?_ (hz := zero_secY); clear hM; intro gk w1 hM)) | ((with_reducible refine at_store ?_); first | (refine slw hM ?_ (hs := secC_size _ _) (h1 := secC_one _ _) (hty := row_sec); clear hM; intro wx hM)))
    (refine (HPB.out _ hM.below).mono ?_)
    rintro e w1 ⟨rfl, hb⟩
    replace hM := hM.step hb
    clear hb
    go_wp2_with (first | ((first | with_reducible refine at_load ?_ | ((with_reducible refine at_load_g ?_ ?_); (· rfl))); first | refine sll hM ?_ (hty := row_a16) | refine sll hM ?_ (hty := row_a32) | refine sll hM ?_ (hty := row_sec) | refine sll hM ?_ (hty := row_pub) | refine sll hM ?_ (hty := row_sgn)) | ((with_reducible refine at_alloc ?_); (refine slz hM ?_ (hz := zero_pub); clear hM; intro gp w1 hM)) | ((with_reducible refine at_store ?_); (refine slw hM ?_ (hs := pubC_size _ _) (h1 := pubC_one _ _) (hty := row_pub); clear hM; intro wx hM)))
    (refine (HSN.out _ hM.below).mono ?_)
    rintro e w1 ⟨A1, c1, rfl, hb⟩
    replace hM := hM.newThing hb
    clear hb
    go_wp2_with (first | ((first | with_reducible refine at_load ?_ | ((with_reducible refine at_load_g ?_ ?_); (· rfl))); first | refine sll hM ?_ (hty := row_a16) | refine sll hM ?_ (hty := row_a32) | refine sll hM ?_ (hty := row_sec) | refine sll hM ?_ (hty := row_pub) | refine sll hM ?_ (hty := row_sgn)) | ((with_reducible refine at_alloc ?_); (refine slz hM ?_ (hz := zero_sgn); clear hM; intro gg w1 hM)) | ((with_reducible refine at_store ?_); (refine slw hM ?_ (hs := sigC_size _ _ _ _ _) (h1 := sigC_one _ _ _ _ _) (hty := row_sgn); clear hM; intro wx hM)))
    (refine (HVV.out _ _ _ _ _ _ (p16N (hM.thing _ (List.Mem.head _)) HC.out.2.2.2.2) hM.below).mono ?_)
    rintro e w1 ⟨rfl, hb⟩
    replace hM := hM.step hb
    clear hb
    rw [HV0.out]
    go_wp2_with (first | ((with_reducible refine at_load ?_); refine wpList_mem_num hM rfl _ _ (by rfl) _ _ (by rfl) _ _ .u8 _ (by repeat (first | exact List.Mem.head _ | apply List.Mem.tail)) one_u8 (by omega) ?_) | ((first | with_reducible refine at_load ?_ | ((with_reducible refine at_load_g ?_ ?_); (· rfl))); first | refine sll hM ?_ (hty := row_a16) | refine sll hM ?_ (hty := row_a32) | refine sll hM ?_ (hty := row_sec) | refine sll hM ?_ (hty := row_pub) | refine sll hM ?_ (hty := row_sgn)) | ((with_reducible refine at_alloc ?_); (refine slz hM ?_ (hz := zero_a16); clear hM; intro go w1 hM)) | ((with_reducible refine at_store ?_); first | (refine slw hM ?_ (hs := ndC_size _) (h1 := cellsOf_one _ _) (hty := row_a16); clear hM; intro wx hM) | (refine wpList_mem_setnum hM rfl _ _ _ (by rfl) _ _ (by rfl) _ _ (by rfl) _ _ _ _ (by repeat (first | exact UpdL.head _ _ _ _ _ | apply UpdL.tail)) one_u8 (by omega) _ (by first | rfl | exact hbx) rfl ?_; clear hM; intro wx hM)))
    rw [HX.out] at hM ⊢
    clear hbx i2 i3
    obtain ⟨V, hV, hW⟩ : ∃ V, verE (h : Nat) r D (k : Nat) ch h PA = V ∧ (V = 0 ∨ V = 17) := ⟨_, rfl, HV2.out D ch PA⟩
    have HVD := HVV.out D ch A1 c1 PA wx (p16N (hM.thing _ (List.Mem.head _)) HC.out.2.2.2.2) hM.below
    rw [hV] at HVD
    have HW := Lib.hid hW
    have HEQ := Lib.hid hV
    clear hV hW
    (refine HVD.mono ?_)
    clear HVD
    rintro e w1 ⟨rfl, hb⟩
    replace hM := hM.step hb
    clear hb
    go_upto_if 79 with fail
    go_cut [21, 22] from 80 to 97 (fun _ _ wc => Mem [] w [⟨go, 23, 16, ndC D⟩, ⟨gg, 37, 562, sigC (k : Nat) ch A1 h c1⟩, ⟨gp, 30, 17, pubC (h : Nat) r⟩, ⟨gk, 28, 33, secC s (h : Nat)⟩, ⟨g7, 23, 16, ndC d⟩, ⟨g4, 22, 32, cellsOf .u8 s.val⟩] [p16T (.slice A1 h c1) PA] wc)
    case first =>
      rcases HW.out with hW | hW
      · subst hW
        rw [show ((0 : Int) != 17) = true from rfl]
        go_wp2_with (first | ((first | with_reducible refine at_load ?_ | ((with_reducible refine at_load_g ?_ ?_); (· rfl))); first | refine sll hM ?_ (hty := row_a16) | refine sll hM ?_ (hty := row_a32) | refine sll hM ?_ (hty := row_sec) | refine sll hM ?_ (hty := row_pub) | refine sll hM ?_ (hty := row_sgn)))
        (refine (HBR.out D _ _ _ HEQ.out (p16N (hM.thing _ (List.Mem.head _)) HC.out.2.2.2.2) HDN.out hM.below).mono ?_)
        rintro e w1 ⟨⟨X, rfl, HX2⟩, hb⟩
        replace hM := hM.step hb
        clear hb
        go_wp2_with (first | ((with_reducible refine at_alloc ?_); refine slz hM ?_ (hz := zero_brkT); clear hM; intro gb w1 hM) | ((with_reducible refine at_store ?_); refine slw hM ?_ (hs := HX2.out.size) (h1 := HX2.out.one) (hty := row_brkT); clear hM; intro wx hM) | (((with_reducible refine at_load_g ?_ ?_); (· rfl)); refine sll hM ?_ (hty := row_brkT)))
        (refine (HBB.out X _ HX2.out hM.below).mono ?_)
        rintro e w1 ⟨rfl, hb⟩
        replace hM := hM.step hb
        clear hb
        go_wp2_with fail
        go_meet
        exact hM.subL (List.sublist_cons_self _ _)
      · subst hW
        rw [show ((17 : Int) != 17) = false from rfl]
        go_wp2_with fail
        go_meet
        exact hM
    case rest =>
      clear hM HSN HPB HX HDN HW HEQ HBR HBB
      rename Mem _ _ _ _ _ => hM
      go_wp2_with (first | ((first | with_reducible refine at_load ?_ | ((with_reducible refine at_load_g ?_ ?_); (· rfl))); first | refine sll hM ?_ (hty := row_a16) | refine sll hM ?_ (hty := row_a32) | refine sll hM ?_ (hty := row_sec) | refine sll hM ?_ (hty := row_pub) | refine sll hM ?_ (hty := row_sgn)))
      (refine (HBK.out _ _ _ (p16N (hM.thing _ (List.Mem.head _)) HC.out.2.2.2.2)).mono ?_)
      rintro e w1 ⟨A2, c2, rfl, hb⟩
      replace hM := hM.newThing hb
      clear hb
      go_wp2_with fail
      (refine (HOW.out _ _ _ (p16N (hM.thing _ (List.Mem.head _)) HC.out.2.2.2.2)).mono ?_)
      rintro e w1 ⟨A3, c3, rfl, hb⟩
      replace hM := hM.newThing hb
      clear hb HBK HOW
      obtain ⟨q, hq, hqh⟩ := sc_mod z h HC.out.2.2.2.1 HC.out.1 HC.out.2.1
      have HQ := Lib.hid hqh
      clear hqh
      go_upto_region 17 with (first | ((with_reducible refine at_alloc ?_); (refine slz hM ?_ (hz := zero_sgn); clear hM; intro gy w1 hM)) | ((with_reducible refine at_store ?_); (refine slw hM ?_ (hs := sigC_size _ _ _ _ _) (h1 := sigC_one _ _ _ _ _) (hty := row_sgn); clear hM; intro wx hM)))
      go_upto_if 109 with (first | ((with_reducible refine at_load ?_); refine slc hM ?_ (hty := one_s16) (hv := sigC_p _ _ _ _ _)))
      rw [hq]
      clear hq
      have HPC := Lib.hid (sigC_p (k : Nat) ch A3 h c3)
      by_cases h0 : q < 560
      · obtain ⟨c, j, hqe, hc, hj, f1, f2, f3, f4, f5, f6, f7, f8, f9, f10⟩ := sc_one h0
        obtain ⟨CH, hCH⟩ : ∃ CH, CH = chX ch (c * 16 + j) b hb := ⟨_, rfl⟩
        have hcj : c * 16 + j < 560 := by omega
        have HBY : Hid ((sigC (k : Nat) ch A3 h c3)[1 + c * 16 + j]? = some (.int .u8 (nth ch.val (c * 16 + j) : Nat))) := Lib.hid (by rw [Nat.add_assoc]; exact sigC_byte (k : Nat) ch A3 h c3 (c * 16 + j) hcj)
        have HSX : Hid ((sigC (k : Nat) ch A3 h c3).setIfInBounds (1 + c * 16 + j) (.int .u8 (nth ch.val (c * 16 + j) ^^^ b : Nat)) = sigC (k : Nat) CH A3 h c3) := Lib.hid (by rw [hCH, Nat.add_assoc]; exact sigC_set _ _ _ _ _ _ _ _ hcj)
        obtain ⟨PB, hPB⟩ : ∃ PB, PB = PA := ⟨_, rfl⟩
        have HNE : Hid (ch ≠ CH ∨ PA ≠ PB) := Lib.hid (.inl (by rw [hCH]; exact (chX_ne hcj HC.out.2.2.1).symm))
        have hbx := xor_bits (nth ch.val (c * 16 + j)) b (nth_lt8 ch.byt _) hb
        have HPL : Hid (PB.length = h) := Lib.hid (by rw [hPB]; exact HC.out.2.2.2.2)
        have HPB := Lib.hid hPB
        clear hqe hCH h0 hc hj hPB
        rw [show decide ((q : Int) < 560) = true from decide_eq_true f5]
        clear f5
        go_wp2_with fail
        refine Go.Bul.wp_region_class_tail (Mem _ w _ _) 13 (by kernel_rfl) (by kernel_rfl) hM.drew ?_
        simp only [List.take_succ_cons, List.take_zero, List.drop_succ_cons, List.drop_zero]
        repeat ((with_reducible refine wpQuiet_step (fun K hK => ?_)); ((with_reducible refine quiet_some ?_ ?_); (· rfl)); apply Exists.intro; refine ⟨fun w' hM' => ?_, ?_⟩; (· first | exact sqc hM' (hty := one_u8) (hv := HBY.out) | exact sqc hM' (hty := one_s16) (hv := HPC.out) | (go_simp; rfl)); go_simp; (with_reducible refine hK _ ?_); clear hK K)
        refine wpQuiet_nil ?_
        intro wx hM
        have HF := Lib.hid (And.intro f7 f8)
        clear f1 f2 f3 f4 f6 f7 f8 f9 f10 hbx HPC
        (with_reducible refine at_store ?_)
        refine sls hM ?_ (hty := one_u8) (hi := by omega) (hX := HSX.out)
        clear hM
        intro wx hM
        have hin : NIn wx A3 h PB := by rw [HPB.out]; exact p16N (hM.thing _ (List.Mem.head _)) HC.out.2.2.2.2
        have hR1 : p16T (.slice A1 h c1) PA ∈ [p16T (.slice A3 h c3) PA, p16T (.slice A2 h c2) PA, p16T (.slice A1 h c1) PA] := List.Mem.tail _ (List.Mem.tail _ (List.Mem.head _))
        clear HSX HBY hcj HF HPB
        obtain ⟨U, hU, hW2⟩ : ∃ U, verE (h : Nat) r d (k : Nat) CH h PB = U ∧ (U = 0 ∨ U = 17) := ⟨_, rfl, HV2.out d CH PB⟩
        have HVD := HVV.out d CH A3 c3 PB wx hin hM.below
        rw [hU] at HVD
        have HW2 := Lib.hid hW2
        have HU := Lib.hid hU
        have HIN := Lib.hid hin
        clear hU hW2 hin
        go_wp2_with (first | ((first | with_reducible refine at_load ?_ | ((with_reducible refine at_load_g ?_ ?_); (· rfl))); first | refine sll hM ?_ (hty := row_a16) | refine sll hM ?_ (hty := row_a32) | refine sll hM ?_ (hty := row_sec) | refine sll hM ?_ (hty := row_pub) | refine sll hM ?_ (hty := row_sgn)))
        (refine HVD.mono ?_)
        clear HVD
        rintro e w1 ⟨rfl, hb⟩
        have HIN2 := Lib.hid (HIN.out.keep hb)
        replace hM := hM.step hb
        clear hb
        rcases HW2.out with hW2 | hW2
        · subst hW2
          go_wp2_with (first | ((first | with_reducible refine at_load ?_ | ((with_reducible refine at_load_g ?_ ?_); (· rfl))); first | refine sll hM ?_ (hty := row_a16) | refine sll hM ?_ (hty := row_a32) | refine sll hM ?_ (hty := row_sec) | refine sll hM ?_ (hty := row_pub) | refine sll hM ?_ (hty := row_sgn)))
          (refine (HEV.out CH PB _ _ _ _ _ HPL.out HU.out (p16N (hM.thing _ hR1) HC.out.2.2.2.2) HIN2.out HNE.out hM.below).mono ?_)
          rintro e w1 ⟨rfl, hb⟩
          replace hM := hM.step hb
          clear hb
          go_wp2_with fail
          go_ret
          exact ⟨rfl, hM.below⟩
        · subst hW2
          go_wp2_with (first | ((first | with_reducible refine at_load ?_ | ((with_reducible refine at_load_g ?_ ?_); (· rfl))); first | refine sll hM ?_ (hty := row_a16) | refine sll hM ?_ (hty := row_a32) | refine sll hM ?_ (hty := row_sec) | refine sll hM ?_ (hty := row_pub) | refine sll hM ?_ (hty := row_sgn)))
          go_ret
          exact ⟨rfl, hM.below⟩
      · obtain ⟨c, j, i, hqe, hci, hi, hj, f1, f2, f3, f4, f5, f6, f7, f8, f9, f10, f11, f12⟩ := sc_two h0 HQ.out HC.out.2.1
        have e3 : p16T (.slice A3 h c3) PA = rowT 23 16 (.slice A3 h c3) h (ndCells PA) := by unfold p16T; rw [HC.out.2.2.2.2]
        rw [e3] at hM
        clear e3
        obtain ⟨gr, off, cur, hA3, hsz, hcur, hM⟩ := hM.openRow HC.out.1
        obtain ⟨PB, hPB⟩ : ∃ PB, PB = rowX PA i j b hb := ⟨_, rfl⟩
        have hiA : i < PA.length := by rw [HC.out.2.2.2.2]; exact hi
        have hij : i * 16 + j < h * 16 := by omega
        have hio : off + i * 16 + j < cur.size := by omega
        have HBY : Hid (cur[off + i * 16 + j]? = some (.int .u8 (nth (PA.getD i nd0).val j : Nat))) := Lib.hid (by rw [Nat.add_assoc, hcur _ hij]; exact ndCells_byte PA i j hiA hj)
        have HNE : Hid (ch ≠ ch ∨ PA ≠ PB) := Lib.hid (.inr (by rw [hPB]; exact (rowX_ne hiA hj HC.out.2.2.1).symm))
        have HPL : Hid (PB.length = h) := Lib.hid (by rw [hPB, rowX_length]; exact HC.out.2.2.2.2)
        have hbx := xor_bits (nth (PA.getD i nd0).val j) b (nth_lt8 (PA.getD i nd0).byt _) hb
        have HPD : Hid ((sigC (k : Nat) ch A3 h c3)[561]? = some (.slice (some ⟨gr, off, none⟩) h c3)) := Lib.hid (by rw [← hA3]; exact HPC.out)
        have HBN : Hid (∀ w', Blk w' gr 23 (cur.setIfInBounds (off + i * 16 + j) (.int .u8 (nth (PA.getD i nd0).val j ^^^ b : Nat))) → NIn w' A3 h PB) := Lib.hid fun w' hB => by
          rw [hA3, hPB]
          exact nin_rowX (cur := cur) hB (by rw [Nat.add_assoc]) hsz hcur HC.out.2.2.2.2 hi hj
        generalize nth (PA.getD i nd0).val j = bt at HBY hbx HBN
        have HIO := Lib.hid hio
        clear hqe h0 hci hi hj hA3 hsz hcur hPB hiA hij HPC hio
        rw [show decide ((q : Int) < 560) = false from decide_eq_false f5]
        clear f5
        go_wp2_with fail
        refine Go.Bul.wp_region_class_tail (Mem _ w _ _) 14 (by kernel_rfl) (by kernel_rfl) hM.drew ?_
        simp only [List.take_succ_cons, List.take_zero, List.drop_succ_cons, List.drop_zero]
        repeat ((with_reducible refine wpQuiet_step (fun K hK => ?_)); ((with_reducible refine quiet_some ?_ ?_); (· rfl)); apply Exists.intro; refine ⟨fun w' hM' => ?_, ?_⟩; (· first | exact sqc hM' (hty := one_u8) (hv := HBY.out) | exact sqc hM' (hty := one_s16) (hv := HPD.out) | (go_simp; rfl)); go_simp; (with_reducible refine hK _ ?_); clear hK K)
        refine wpQuiet_nil ?_
        intro wx hM
        clear f1 f2 f3 f4 f6 f7 f8 f9 f10 f11 f12 hbx HPD
        (with_reducible refine at_store ?_)
        refine sls hM ?_ (hty := one_u8) (hi := HIO.out)
        clear hM
        intro wx hM
        have hin : NIn wx A3 h PB := HBN.out wx (hM.blk (List.Mem.head _))
        have hR1 : p16T (.slice A1 h c1) PA ∈ [p16T (.slice A2 h c2) PA, p16T (.slice A1 h c1) PA] := List.Mem.tail _ (List.Mem.head _)
        clear HBN HBY HIO
        obtain ⟨U, hU, hW2⟩ : ∃ U, verE (h : Nat) r d (k : Nat) ch h PB = U ∧ (U = 0 ∨ U = 17) := ⟨_, rfl, HV2.out d ch PB⟩
        have HVD := HVV.out d ch A3 c3 PB wx hin hM.below
        rw [hU] at HVD
        have HW2 := Lib.hid hW2
        have HU := Lib.hid hU
        have HIN := Lib.hid hin
        clear hU hW2 hin
        go_wp2_with (first | ((first | with_reducible refine at_load ?_ | ((with_reducible refine at_load_g ?_ ?_); (· rfl))); first | refine sll hM ?_ (hty := row_a16) | refine sll hM ?_ (hty := row_a32) | refine sll hM ?_ (hty := row_sec) | refine sll hM ?_ (hty := row_pub) | refine sll hM ?_ (hty := row_sgn)))
        (refine HVD.mono ?_)
        clear HVD
        rintro e w1 ⟨rfl, hb⟩
        have HIN2 := Lib.hid (HIN.out.keep hb)
        replace hM := hM.step hb
        clear hb
        rcases HW2.out with hW2 | hW2
        · subst hW2
          go_wp2_with (first | ((first | with_reducible refine at_load ?_ | ((with_reducible refine at_load_g ?_ ?_); (· rfl))); first | refine sll hM ?_ (hty := row_a16) | refine sll hM ?_ (hty := row_a32) | refine sll hM ?_ (hty := row_sec) | refine sll hM ?_ (hty := row_pub) | refine sll hM ?_ (hty := row_sgn)))
          (refine (HEV.out ch PB _ _ _ _ _ HPL.out HU.out (p16N (hM.thing _ hR1) HC.out.2.2.2.2) HIN2.out HNE.out hM.below).mono ?_)
          rintro e w1 ⟨rfl, hb⟩
          replace hM := hM.step hb
          clear hb
          go_wp2_with fail
          go_ret
          exact ⟨rfl, hM.below⟩
        · subst hW2
          go_wp2_with (first | ((first | with_reducible refine at_load ?_ | ((with_reducible refine at_load_g ?_ ?_); (· rfl))); first | refine sll hM ?_ (hty := row_a16) | refine sll hM ?_ (hty := row_a32) | refine sll hM ?_ (hty := row_sec) | refine sll hM ?_ (hty := row_pub) | refine sll hM ?_ (hty := row_sgn)))
          go_ret
          exact ⟨rfl, hM.below⟩
end Go.Proofs.YtbbdnlcjjcmllaaDoor
namespace Go.Proofs.YtbbdnlcjjcmllaaDoor
open Go Go.RowKit Go.Bul Go.Thg Go.Lin
theorem schg_row (bs : List Nat) (x y : Nat) (es : List Nat) (z : Int) (b : Nat) (w : World) (hl : bs.length = 32) (hb : Bytes bs) (hx : x < 256) (hy : y < 256) (hl1 : es.length = 16) (hb1 : Bytes es) (hz : (Lit.int .u16 z).wf = true) (hbb : b < 256) (hT : Tab w) (hA : Alp w) :
    Calls Tryd.prog 3 #[.agg (cellsOf .u8 bs), .int .u8 (x : Nat), .int .u8 (y : Nat), .agg (cellsOf .u8 es), .int .u16 z, .int .u8 (b : Nat)] w fun e w' => e = .returned (.bool true) ∧ Below w.heap.size w w' := by
  have hz2 : (0 : Int) ≤ z ∧ z ≤ 65535 := (Go.Lit.wf_int_iff .u16 z).1 hz
  obtain ⟨n, hn, rfl⟩ : ∃ n : Nat, n < 65536 ∧ z = (n : Int) := ⟨z.toNat, by omega, by omega⟩
  exact schg_any ⟨bs, hl, hb⟩ x y ⟨es, hl1, hb1⟩ n b w hx hy hn hbb hT hA
end Go.Proofs.YtbbdnlcjjcmllaaDoor
