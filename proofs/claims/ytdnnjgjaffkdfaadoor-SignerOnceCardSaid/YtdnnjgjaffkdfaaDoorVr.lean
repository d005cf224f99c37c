/- Contracts of siblings, Path. Contracts of Path, the reference's Path, same. Contract of same; MerkleRoot: the walk. Contracts of From, Verify for any path; every leaf is verified by its path. A heap predicate: blocks that are known whole and rows of the call's own, whose addresses stay names; the operations on it. -/
import Derived.Test.YtdnnjgjaffkdfaaDoorVq
import Derived.Test.YtdnnjgjaffkdfaaDoorVe
namespace Go.Lin
open Go
def sib (k : Nat) : Nat := if k % 2 = 0 then k + 1 else k - 1
def sibsF (leaves : List Nd) (idx n : Nat) : List Nd := (List.range n).map fun k => nodeN leaves k (sib (idx / 2 ^ k))
theorem sibsF_succ (leaves : List Nd) (idx n : Nat) : sibsF leaves idx (n + 1) = sibsF leaves idx n ++ [nodeN leaves n (sib (idx / 2 ^ n))] := by simp [sibsF, List.range_succ]
theorem sibsF_length (leaves : List Nd) (idx n : Nat) : (sibsF leaves idx n).length = n := by simp [sibsF]
theorem div_lt {idx h k : Nat} (hi : idx < 2 ^ h) (hk : k ≤ h) : idx / 2 ^ k < 2 ^ (h - k) := by
  rw [Nat.div_lt_iff_lt_mul (Nat.pow_pos (by decide)), ← Nat.pow_add, show h - k + k = h by omega]
  exact hi
theorem sib_lt {idx h k : Nat} (hi : idx < 2 ^ h) (hk : k < h) : sib (idx / 2 ^ k) < 2 ^ (h - k) := by
  have h1 := div_lt hi (Nat.le_of_lt hk)
  have h2 : 2 ^ (h - k) = 2 * 2 ^ (h - k - 1) := by rw [← Nat.pow_succ']; congr 1; omega
  unfold sib
  generalize idx / 2 ^ k = q at *
  generalize 2 ^ (h - k - 1) = m at *
  split <;> omega
theorem sib_node {leaves : List Nd} {idx h k : Nat} (hn : leaves.length = 2 ^ h) (hi : idx < 2 ^ h) (hk : k < h) : (sib (idx / 2 ^ k) + 1) * 2 ^ k ≤ leaves.length := by
  have h1 := sib_lt hi hk
  have h2 : (sib (idx / 2 ^ k) + 1) * 2 ^ k ≤ 2 ^ (h - k) * 2 ^ k := Nat.mul_le_mul_right _ h1
  rw [← Nat.pow_add, show h - k + k = h by omega] at h2
  omega
theorem bits_xor1 : ∀ x : Fin 1024, bits BinOp.xor IntKind.i64 (x.val : Int) 1 = ((sib x.val : Nat) : Int) := by decide +kernel
end Go.Lin
namespace Go.Proofs.YtdnnjgjaffkdfaaDoor
open Go Go.RowKit Go.Bul Go.Thg Go.Lin
/-- The rows of a tree. -/
structure TreeIn (w : World) (B : Option Addr) (d h : Nat) (leaves : List Nd) : Prop where
  cap : h + 1 ≤ d
  ex : ∃ gt ot, B = some ⟨gt, ot, none⟩ ∧ gt < w.heap.size ∧ ∀ k, k ≤ h → ∃ C e, w.cell? ⟨gt, ot + k, none⟩ = some (.slice C (lvl leaves k).length e) ∧ NIn w C (lvl leaves k).length (lvl leaves k)
theorem TreeIn.keep {w w' : World} {B : Option Addr} {d h : Nat} {leaves : List Nd} (ht : TreeIn w B d h leaves) (hb : Below w.heap.size w w') : TreeIn w' B d h leaves := by
  obtain ⟨hc, gt, ot, h1, h2, h3⟩ := ht
  refine ⟨hc, gt, ot, h1, Nat.lt_of_lt_of_le h2 hb.size, fun k hk => ?_⟩
  obtain ⟨C, e, h4, h5⟩ := h3 k hk
  exact ⟨C, e, (hb.cell (p := ⟨gt, ot + k, none⟩) h2).trans h4, h5.keep hb⟩
theorem tree_in {w0 w : World} {B C : Option Addr} {d h e : Nat} {vs : List Value} {leaves : List Nd} (hM : Mem [] w0 [] (slT (.slice B (h + 1) d) (vs ++ [.slice C 1 e]) :: ndT (.slice C 1 e) (lvl leaves h) :: ndRows vs (lvls leaves h)) w) (hv : vs.length = h) (h1 : (lvl leaves h).length = 1) : TreeIn w B d h leaves := by
  have hP : OffRow w 93 1 (.slice B (h + 1) d) (vs ++ [Value.slice C 1 e]).length (vs ++ [Value.slice C 1 e]) := hM.thing (slT (.slice B (h + 1) d) (vs ++ [Value.slice C 1 e])) (List.Mem.head _)
  have hlen : (vs ++ [Value.slice C 1 e]).length = h + 1 := by simp [hv]
  obtain ⟨A', c', he, hle, _⟩ := OffRow.form hP
  have e2 : d = c' := by injection he
  rw [hlen] at hle hP
  obtain ⟨gt, ot, rfl, hlt, hc, _⟩ := OffRow.cells hP (by omega)
  refine ⟨by omega, gt, ot, rfl, hlt, fun k hk => ?_⟩
  have hk2 : k < (vs ++ [Value.slice C 1 e]).length := by omega
  have hcell := hc k _ (List.getElem?_eq_getElem hk2)
  rcases Nat.lt_or_ge k h with hkh | hkh
  · have hkv : k < vs.length := by omega
    rw [List.getElem_append_left hkv] at hcell
    have hth := hM.thing _ (List.Mem.tail _ (List.Mem.tail _ (ndRows_mem (vs := vs) (lv := lvls leaves h) (by rw [lvls_length]; exact hv) k (by rw [lvls_length]; exact hkh))))
    have hll : (lvls leaves h)[k]'(by rw [lvls_length]; exact hkh) = lvl leaves k := by simp [lvls]
    rw [hll] at hth
    obtain ⟨A2, c2, hv2, _, hn⟩ := ndT_form hth
    rw [hv2] at hcell
    exact ⟨A2, c2, hcell, hn⟩
  · obtain rfl : k = h := by omega
    have hlast : (vs ++ [Value.slice C 1 e])[k]'hk2 = Value.slice C 1 e := by
      rw [List.getElem_append_right (by omega)]
      simp
    rw [hlast] at hcell
    have hni := ndT_in (hM.thing (ndT (.slice C 1 e) (lvl leaves k)) (List.Mem.tail _ (List.Mem.head _)))
    rw [h1]
    exact ⟨C, e, hcell, hni⟩
theorem size_sl : (Tryd.prog.info? 93).map (·.size) = some 1 := by kernel_rfl
set_option maxRecDepth 20000 in
set_option maxHeartbeats 4000000 in
theorem siblings_any (B : Option Addr) (d h : Nat) (leaves : List Nd) (idx : Nat) (w : World) (ht : TreeIn w B d h leaves) (hn : leaves.length = 2 ^ h) (hh : h ≤ 10) (hi : idx < 2 ^ h) :
    Calls Tryd.prog 117 #[.slice B (h + 1) d, .int .i64 (idx : Nat)] w fun e w' => ∃ A' c', e = .returned (.slice A' h c') ∧ Becomes [] w (ndT (.slice A' h c') (sibsF leaves idx h)) w' := by
  have hM := Mem.start [] w
  obtain ⟨hc, gt, ot, rfl, hgt, hT⟩ := id ht
  have hd : advA (some ⟨gt, ot, none⟩) 0 d 1 = some ⟨gt, ot, none⟩ := by
    unfold advA
    rw [if_neg (by omega)]
    simp [addr_at]
  have w5 : IntKind.i64.wrap ((h : Int) + 1 - 1) = (h : Int) := by rw [show (h : Int) + 1 - 1 = (h : Int) by omega]; exact IntWalk.i64_in (h : Int) ⟨by omega, by omega⟩
  have HD := Lib.hid hd
  have HC := Lib.hid hc
  have HT := Lib.hid (fun w' (hb : Below w.heap.size w w') => (ht.keep hb).ex)
  have HN := Lib.hid hn
  have HI := Lib.hid hi
  have HX : Hid (idx / 2 ^ 0 = idx) := Lib.hid (by simp)
  have hidx : idx < 1024 := by
    have : 2 ^ h ≤ 2 ^ 10 := Nat.pow_le_pow_right (by decide) hh
    omega
  have HIX := Lib.hid hidx
  clear ht hd hc hT hn hi hidx hgt
  go_enter Tryd.func117, Tryd.ntmps117
  go_wp2_with (first | (refine lsl_hi (k := h) Tryd.underlying169 size_sl (by have := HC.out; omega) HD.out ?_) | ((first | with_reducible refine at_load ?_ | ((with_reducible refine at_load_g ?_ ?_); (· rfl))); first | refine ll hM ?_ | refine lc hM ?_ | refine lp hM ?_) | ((with_reducible refine at_store ?_); first | (refine lw hM ?_; clear hM; intro wx hM) | (refine ls hM ?_; clear hM; intro wx hM) | (refine lt hM ?_; clear hM; intro wx hM)) | ((with_reducible refine at_alloc ?_); refine lz hM ?_; clear hM; intro gx wx hM) | ((with_reducible refine at_box ?_); refine lb hM ?_; clear hM; intro gx wx hM))
  have M0 := Lib.hid (hM.newThing (nbecomes_zero none (KeptBut.refl _ _)))
  clear hM
  go_loopw [14, 5, 1] (fun i p x wr => ∃ (k : Nat) (E : Option Addr) (e2 : Nat), k ≤ h ∧ i = .int .i64 (k : Nat) ∧ x = .int .i64 ((idx / 2 ^ k : Nat) : Int) ∧ p = .slice E (sibsF leaves idx k).length e2 ∧ Mem [] w [] [ndT (.slice E (sibsF leaves idx k).length e2) (sibsF leaves idx k)] wr) (fun i _ _ _ => h - (intOf i).toNat)
  case atStart => exact ⟨0, none, 0, by omega, rfl, by rw [HX.out], rfl, M0.out⟩
  case round =>
    clear M0
    obtain ⟨k, E, e2, hk, rfl, rfl, rfl, hM⟩ := hrel
    by_cases hlt : k < h
    · obtain ⟨gt', ot', he, _, h3⟩ := HT.out _ hM.below
      injection he with he
      injection he with e1 e3
      subst e1 e3
      obtain ⟨C, e, hcell, hni⟩ := h3 k hk
      have hs1 := sib_lt HI.out hlt
      have hnode := lvl_get leaves k _ (sib_node HN.out HI.out hlt)
      have hll : (lvl leaves k).length = 2 ^ (h - k) := by rw [lvl_length, HN.out]; exact Nat.pow_div hk (by decide)
      rw [← hll] at hs1
      obtain ⟨gl, ol, rfl, _, h5⟩ := hni.row _ hs1
      have hrow := NIn.cell hni _ hs1
      have hx : (lvl leaves k)[sib (idx / 2 ^ k)] = nodeN leaves k (sib (idx / 2 ^ k)) := by
        rw [List.getElem?_eq_getElem hs1] at hnode
        exact Option.some.inj hnode
      rw [hx] at hrow
      have hsucc := sibsF_succ leaves idx k
      have hdiv : idx / 2 ^ (k + 1) = idx / 2 ^ k / 2 := by rw [Nat.pow_succ, Nat.div_div_eq_div_mul]
      have hcl := sibsF_length leaves idx k
      have hq : idx / 2 ^ k < 1024 := Nat.lt_of_le_of_lt (Nat.div_le_self _ _) HIX.out
      have hxor := bits_xor1 ⟨idx / 2 ^ k, hq⟩
      simp only at hxor
      clear hnode h5 hx hni h3 hll
      obtain ⟨m, hm⟩ : ∃ m, (lvl leaves k).length = m := ⟨_, rfl⟩
      rw [hm] at hs1 hcell
      generalize nodeN leaves k (sib (idx / 2 ^ k)) = Z at hrow hsucc
      generalize idx / 2 ^ k = q at *
      generalize sib q = s at *
      obtain ⟨cur, hcur⟩ : ∃ c, sibsF leaves idx k = c := ⟨_, rfl⟩
      rw [hcur] at hsucc hM hcl ⊢
      have HSUCC := Lib.hid hsucc
      have HDIV := Lib.hid hdiv
      have HROW := Lib.hid hrow
      have HCELL := Lib.hid hcell
      have h63 : cur.length + [Z].length ≤ 1000000000 := by simp; omega
      have q0 : (0 : Int) ≤ (k : Int) := Int.natCast_nonneg _
      have q1 : (k : Int) < (h : Int) := by omega
      have q2 : (0 : Int) ≤ (s : Int) := Int.natCast_nonneg _
      have q3 : (s : Int) < (m : Int) := by omega
      clear hs1 hm hsucc hdiv hcl hrow hcell hcur hq
      go_wp2_with (first | ((with_reducible refine at_load ?_); first | refine lo HCELL.out ?_ | refine lr HROW.out ?_) | (refine lbn1 hM ?_; clear hM; intro g1 w5 hM) | ((with_reducible refine at_append ?_); refine lan (src_nd1 hM (List.Mem.head _)) hM h63 ?_; clear hM; intro A2 N2 c2 wx hN2 hM))
      obtain rfl : N2 = (cur ++ [Z]).length := hN2.out
      exact ⟨⟨k + 1, A2, c2, by omega, by go_num, by rw [HDIV.out]; first | rfl | simp, by rw [HSUCC.out], by rw [HSUCC.out]; exact hM.subL (List.sublist_cons_self _ _)⟩, by simp [intOf]; omega⟩
    · obtain rfl : k = h := by omega
      rw [sibsF_length] at hM ⊢
      clear hlt hk
      go_wp2_with fail
      go_ret
      exact ⟨E, e2, rfl, hM.becomes (by exact List.Mem.head _)⟩
end Go.Proofs.YtdnnjgjaffkdfaaDoor
namespace Go.Lin
open Go
def pathF (leaves : List Nd) (idx : Int) : List Nd × Int :=
  if chkE leaves.length ≠ 0 then ([], chkE leaves.length) else if idx < 0 ∨ (leaves.length : Int) ≤ idx then ([], 8) else (sibsF leaves idx.toNat (Nat.log2 leaves.length), 0)
end Go.Lin
namespace Go.Proofs.YtdnnjgjaffkdfaaDoor
open Go Go.RowKit Go.Bul Go.Thg Go.Lin
set_option maxRecDepth 20000 in
set_option maxHeartbeats 4000000 in
theorem path_any (A : Option Addr) (n c : Nat) (leaves : List Nd) (idx : Int) (w : World) (hr : NIn w A n leaves) (hn : n ≤ 2000) (hT : Tab w) :
    Calls Tryd.prog 90 #[.slice A n c, .int .i64 idx] w fun e w' => ∃ A' c', e = .returned (.tuple #[.slice A' (pathF leaves idx).1.length c', .int .i64 (pathF leaves idx).2]) ∧ Becomes [] w (ndT (.slice A' (pathF leaves idx).1.length c') (pathF leaves idx).1) w' := by
  have hl := hr.len
  unfold pathF
  rw [← hl]
  have HC := Lib.hid (fun w => check_any A n c w (by omega))
  by_cases hc : chkE n = 0
  · obtain ⟨h, hh, he, hlog⟩ := chkE_yes hc
    rw [if_neg (by rw [hc]; decide), hlog]
    rw [hc] at HC
    by_cases h0 : idx < 0
    · rw [if_pos (.inl h0)]
      have hM := Mem.start [] w
      have q1 : decide (idx < 0) = true := decide_eq_true h0
      clear h0 hr hl hT hc he hlog hh
      go_enter Tryd.func90, Tryd.ntmps90
      go_wp2_with (first | ((with_reducible refine (HC.out _).mono ?_); rintro e w1 ⟨rfl, rfl⟩) | ((first | with_reducible refine at_load ?_ | ((with_reducible refine at_load_g ?_ ?_); (· rfl))); first | refine ll hM ?_ | refine lc hM ?_ | refine lp hM ?_) | ((with_reducible refine at_store ?_); first | (refine lw hM ?_; clear hM; intro wx hM) | (refine ls hM ?_; clear hM; intro wx hM) | (refine lt hM ?_; clear hM; intro wx hM)) | ((with_reducible refine at_alloc ?_); refine lz hM ?_; clear hM; intro gx wx hM) | ((with_reducible refine at_box ?_); refine lb hM ?_; clear hM; intro gx wx hM))
      go_ret2
      exact ⟨none, 0, rfl, nbecomes_zero none (KeptBut.refl _ _)⟩
    · have q1 : decide (idx < 0) = false := decide_eq_false h0
      by_cases h1 : (n : Int) ≤ idx
      · rw [if_pos (.inr h1)]
        have hM := Mem.start [] w
        have q2 : decide ((n : Int) ≤ idx) = true := decide_eq_true h1
        clear h0 h1 hr hl hT hc he hlog hh
        go_enter Tryd.func90, Tryd.ntmps90
        go_wp2_with (first | ((with_reducible refine (HC.out _).mono ?_); rintro e w1 ⟨rfl, rfl⟩) | ((first | with_reducible refine at_load ?_ | ((with_reducible refine at_load_g ?_ ?_); (· rfl))); first | refine ll hM ?_ | refine lc hM ?_ | refine lp hM ?_) | ((with_reducible refine at_store ?_); first | (refine lw hM ?_; clear hM; intro wx hM) | (refine ls hM ?_; clear hM; intro wx hM) | (refine lt hM ?_; clear hM; intro wx hM)) | ((with_reducible refine at_alloc ?_); refine lz hM ?_; clear hM; intro gx wx hM) | ((with_reducible refine at_box ?_); refine lb hM ?_; clear hM; intro gx wx hM))
        go_ret2
        exact ⟨none, 0, rfl, nbecomes_zero none (KeptBut.refl _ _)⟩
      · rw [if_neg (by omega)]
        have q2 : decide ((n : Int) ≤ idx) = false := decide_eq_false h1
        obtain ⟨k, rfl⟩ : ∃ k : Nat, idx = (k : Int) := ⟨idx.toNat, by omega⟩
        have hk : k < 2 ^ h := by omega
        have q3 : decide (n ≤ k) = false := decide_eq_false (by omega)
        simp only [Int.toNat_natCast]
        have hln : leaves.length = 2 ^ h := by omega
        have hM := Mem.start [] w
        have hl1 : (lvl leaves h).length = 1 := by rw [lvl_length, hln]; exact Nat.div_self (Nat.pow_pos (by decide))
        have HG := Lib.hid (fun w' (hb : Below w.heap.size w w') => grow_any A n c h leaves w' (hr.keep hb) hln hh (hT.keep hb))
        have HS := Lib.hid (fun B d w' (ht : TreeIn w' B d h leaves) => siblings_any B d h leaves k w' ht hln hh hk)
        have hsl := sibsF_length leaves k h
        generalize sibsF leaves k h = Z at HS hsl ⊢
        rw [hsl]
        have HL1 := Lib.hid hl1
        clear h0 h1 hr hl hT hc he hlog hh hk hln hl1
        go_enter Tryd.func90, Tryd.ntmps90
        go_wp2_with (first | ((with_reducible refine (HC.out _).mono ?_); rintro e w1 ⟨rfl, rfl⟩) | ((with_reducible refine (HG.out _ hM.below).mono ?_); rintro e w1 ⟨B, d, vs, C, e', rfl, hvl, hG⟩; have HTI := Lib.hid (tree_in hG hvl HL1.out); replace hM := hM.frame hG; clear hG) | ((with_reducible refine (HS.out _ _ _ HTI.out).mono ?_); rintro e w2 ⟨A', c', rfl, hb⟩; replace hM := hM.newThing hb; clear hb) | ((first | with_reducible refine at_load ?_ | ((with_reducible refine at_load_g ?_ ?_); (· rfl))); first | refine ll hM ?_ | refine lc hM ?_ | refine lp hM ?_) | ((with_reducible refine at_store ?_); first | (refine lw hM ?_; clear hM; intro wx hM) | (refine ls hM ?_; clear hM; intro wx hM) | (refine lt hM ?_; clear hM; intro wx hM)) | ((with_reducible refine at_alloc ?_); refine lz hM ?_; clear hM; intro gx wx hM) | ((with_reducible refine at_box ?_); refine lb hM ?_; clear hM; intro gx wx hM))
        go_ret2
        exact ⟨A', c', rfl, hM.becomes (by exact List.Mem.head _)⟩
  · rw [if_pos hc]
    have hM := Mem.start [] w
    have q1 : (chkE n != 0) = true := by simpa using hc
    generalize chkE n = ce at q1 HC ⊢
    clear hc hr hl hT
    go_enter Tryd.func90, Tryd.ntmps90
    go_wp2_with (first | ((with_reducible refine (HC.out _).mono ?_); rintro e w1 ⟨rfl, rfl⟩) | ((first | with_reducible refine at_load ?_ | ((with_reducible refine at_load_g ?_ ?_); (· rfl))); first | refine ll hM ?_ | refine lc hM ?_ | refine lp hM ?_) | ((with_reducible refine at_store ?_); first | (refine lw hM ?_; clear hM; intro wx hM) | (refine ls hM ?_; clear hM; intro wx hM) | (refine lt hM ?_; clear hM; intro wx hM)) | ((with_reducible refine at_alloc ?_); refine lz hM ?_; clear hM; intro gx wx hM) | ((with_reducible refine at_box ?_); refine lb hM ?_; clear hM; intro gx wx hM))
    go_ret2
    exact ⟨none, 0, rfl, nbecomes_zero none (KeptBut.refl _ _)⟩
set_option maxRecDepth 20000 in
set_option maxHeartbeats 4000000 in
theorem rpath_any (A : Option Addr) (n c : Nat) (leaves : List Nd) (idx : Int) (w : World) (hr : NIn w A n leaves) (hn : n ≤ 2000) :
    Calls Tryd.prog 65 #[.slice A n c, .int .i64 idx] w fun e w' => ∃ A' c', e = .returned (.tuple #[.slice A' (pathF leaves idx).1.length c', .int .i64 (pathF leaves idx).2]) ∧ Becomes [] w (rnT (.slice A' (pathF leaves idx).1.length c') (pathF leaves idx).1) w' := by
  have hl := hr.len
  unfold pathF
  rw [← hl]
  have HC := Lib.hid (fun w => height_any n w (by omega))
  unfold heightN at HC
  by_cases hc : chkE n = 0
  · obtain ⟨h, hh, he, hlog⟩ := chkE_yes hc
    rw [if_neg (by rw [hc]; decide), hlog]
    rw [if_pos hc, hc, hlog] at HC
    by_cases h0 : idx < 0
    · rw [if_pos (.inl h0)]
      have hM := Mem.start [] w
      have q1 : decide (idx < 0) = true := decide_eq_true h0
      clear h0 hr hl hc he hlog hh
      go_enter Tryd.func65, Tryd.ntmps65
      go_wp2_with (first | ((with_reducible refine (HC.out _).mono ?_); rintro e w1 ⟨rfl, rfl⟩) | ((first | with_reducible refine at_load ?_ | ((with_reducible refine at_load_g ?_ ?_); (· rfl))); first | refine ll hM ?_ | refine lc hM ?_ | refine lp hM ?_) | ((with_reducible refine at_store ?_); first | (refine lw hM ?_; clear hM; intro wx hM) | (refine ls hM ?_; clear hM; intro wx hM) | (refine lt hM ?_; clear hM; intro wx hM)) | ((with_reducible refine at_alloc ?_); refine lz hM ?_; clear hM; intro gx wx hM) | ((with_reducible refine at_box ?_); refine lb hM ?_; clear hM; intro gx wx hM))
      go_ret2
      exact ⟨none, 0, rfl, rbecomes_zero none (KeptBut.refl _ _)⟩
    · have q1 : decide (idx < 0) = false := decide_eq_false h0
      by_cases h1 : (n : Int) ≤ idx
      · rw [if_pos (.inr h1)]
        have hM := Mem.start [] w
        have q2 : decide ((n : Int) ≤ idx) = true := decide_eq_true h1
        clear h0 h1 hr hl hc he hlog hh
        go_enter Tryd.func65, Tryd.ntmps65
        go_wp2_with (first | ((with_reducible refine (HC.out _).mono ?_); rintro e w1 ⟨rfl, rfl⟩) | ((first | with_reducible refine at_load ?_ | ((with_reducible refine at_load_g ?_ ?_); (· rfl))); first | refine ll hM ?_ | refine lc hM ?_ | refine lp hM ?_) | ((with_reducible refine at_store ?_); first | (refine lw hM ?_; clear hM; intro wx hM) | (refine ls hM ?_; clear hM; intro wx hM) | (refine lt hM ?_; clear hM; intro wx hM)) | ((with_reducible refine at_alloc ?_); refine lz hM ?_; clear hM; intro gx wx hM) | ((with_reducible refine at_box ?_); refine lb hM ?_; clear hM; intro gx wx hM))
        go_ret2
        exact ⟨none, 0, rfl, rbecomes_zero none (KeptBut.refl _ _)⟩
      · rw [if_neg (by omega)]
        have q2 : decide ((n : Int) ≤ idx) = false := decide_eq_false h1
        obtain ⟨x, rfl⟩ : ∃ k : Nat, idx = (k : Int) := ⟨idx.toNat, by omega⟩
        have hk : x < 2 ^ h := by omega
        have q3 : decide (n ≤ x) = false := decide_eq_false (by omega)
        simp only [Int.toNat_natCast]
        have hln : leaves.length = 2 ^ h := by omega
        have hM := Mem.start [] w
        have HN := Lib.hid (fun lev k w' (hb : Below w.heap.size w w') h1 h2 => rnode_any A n c leaves hn lev k w' (hr.keep hb) h1 h2)
        have HSN := Lib.hid (fun k (h : k < h) => sib_node (leaves := leaves) (idx := x) hln hk h)
        rw [← hl] at HSN
        have hx : x < 2000 := by omega
        have HX := Lib.hid hx
        have hh2 : (h : Int) ≤ 10 := by omega
        clear h0 h1 hr hl hc he hlog hk hln
        go_enter Tryd.func65, Tryd.ntmps65
        go_wp2_with (first | ((with_reducible refine (HC.out _).mono ?_); rintro e w1 ⟨rfl, rfl⟩) | ((first | with_reducible refine at_load ?_ | ((with_reducible refine at_load_g ?_ ?_); (· rfl))); first | refine ll hM ?_ | refine lc hM ?_ | refine lp hM ?_) | ((with_reducible refine at_store ?_); first | (refine lw hM ?_; clear hM; intro wx hM) | (refine ls hM ?_; clear hM; intro wx hM) | (refine lt hM ?_; clear hM; intro wx hM)) | ((with_reducible refine at_alloc ?_); refine lz hM ?_; clear hM; intro gx wx hM) | ((with_reducible refine at_box ?_); refine lb hM ?_; clear hM; intro gx wx hM))
        have M0 := Lib.hid (hM.newThing (rbecomes_zero none (KeptBut.refl _ _)))
        clear hM
        go_loopw [9, 8] (fun i p wr => ∃ (k : Nat) (E : Option Addr) (e2 : Nat), k ≤ h ∧ i = .int .i64 (k : Nat) ∧ p = .slice E (sibsF leaves x k).length e2 ∧ Mem [] w [] [rnT (.slice E (sibsF leaves x k).length e2) (sibsF leaves x k)] wr) (fun i _ _ => h - (intOf i).toNat)
        case atStart => exact ⟨0, none, 0, by omega, rfl, rfl, M0.out⟩
        case round =>
          clear M0
          obtain ⟨k, E, e2, hk, rfl, rfl, hM⟩ := hrel
          by_cases hlt : k < h
          · have hsucc := sibsF_succ leaves x k
            have hcl := sibsF_length leaves x k
            have HNN := Lib.hid (fun w' (hb : Below w.heap.size w w') => HN.out k (sib (x / 2 ^ k)) w' hb (by omega) (HSN.out k hlt))
            have hqx : x / 2 ^ k ≤ x := Nat.div_le_self _ _
            have hdx : (x : Int) / 2 ^ k = ((x / 2 ^ k : Nat) : Int) := by simp
            generalize nodeN leaves k (sib (x / 2 ^ k)) = Z at HNN hsucc
            obtain ⟨q, hq⟩ : ∃ q, x / 2 ^ k = q := ⟨_, rfl⟩
            rw [hq] at HNN hqx hdx
            have hq2 : q < 2000 := by omega
            obtain ⟨cur, hcur⟩ : ∃ c, sibsF leaves x k = c := ⟨_, rfl⟩
            rw [hcur] at hsucc hM hcl ⊢
            have HSUCC := Lib.hid hsucc
            have h63 : cur.length + [Z].length ≤ 1000000000 := by simp; omega
            have q0 : (0 : Int) ≤ (k : Int) := Int.natCast_nonneg _
            have q1 : (k : Int) < (h : Int) := by omega
            have q3 : (0 : Int) ≤ (q : Int) := Int.natCast_nonneg _
            clear hsucc hcl hcur hq hqx HN
            by_cases hpar : q % 2 = 0
            · have hs : sib q = q + 1 := by unfold sib; rw [if_pos hpar]
              obtain ⟨s, hs2⟩ : ∃ s, q + 1 = s := ⟨_, rfl⟩
              rw [hs, hs2] at HNN
              have r0 : (q : Int).tmod 2 = (q : Int) % 2 := Int.tmod_eq_emod_of_nonneg q3
              have r1 : ((q : Int).tmod 2 == 0) = true := by rw [r0]; simp; omega
              have r2 : ((q : Int) % 2 == 0) = true := by simp; omega
              have r3 : (q % 2 == 0) = true := by simp; omega
              clear r0
              have w1 : IntKind.i64.wrap ((q : Int) + 1) = (s : Int) := by rw [show (q : Int) + 1 = (s : Int) by omega]; exact IntWalk.i64_in _ ⟨by omega, by omega⟩
              clear hpar hs hs2 hq2
              go_wp2_with (first | ((with_reducible refine (HNN.out _ hM.below).mono ?_); rintro e w1 ⟨rfl, hb⟩; replace hM := hM.step hb; clear hb) | (refine lbr1 hM ?_; clear hM; intro g1 w5 hM) | ((with_reducible refine at_append ?_); refine lar (src_rn1 hM (List.Mem.head _)) hM h63 ?_; clear hM; intro A2 N2 c2 wx hN2 hM))
              obtain rfl : N2 = (cur ++ [Z]).length := hN2.out
              exact ⟨⟨k + 1, A2, c2, by omega, by go_num, by rw [HSUCC.out], by rw [HSUCC.out]; exact hM.subL (List.sublist_cons_self _ _)⟩, by simp [intOf]; omega⟩
            · have hs : sib q = q - 1 := by unfold sib; rw [if_neg hpar]
              obtain ⟨s, hs2⟩ : ∃ s, q - 1 = s := ⟨_, rfl⟩
              rw [hs, hs2] at HNN
              have r0 : (q : Int).tmod 2 = (q : Int) % 2 := Int.tmod_eq_emod_of_nonneg q3
              have r1 : ((q : Int).tmod 2 == 0) = false := by rw [r0]; simp; omega
              have r2 : ((q : Int) % 2 == 0) = false := by simp; omega
              have r3 : (q % 2 == 0) = false := by simp; omega
              clear r0
              have w1 : IntKind.i64.wrap ((q : Int) - 1) = (s : Int) := by rw [show (q : Int) - 1 = (s : Int) by omega]; exact IntWalk.i64_in _ ⟨by omega, by omega⟩
              clear hpar hs hs2 hq2
              go_wp2_with (first | ((with_reducible refine (HNN.out _ hM.below).mono ?_); rintro e w1 ⟨rfl, hb⟩; replace hM := hM.step hb; clear hb) | (refine lbr1 hM ?_; clear hM; intro g1 w5 hM) | ((with_reducible refine at_append ?_); refine lar (src_rn1 hM (List.Mem.head _)) hM h63 ?_; clear hM; intro A2 N2 c2 wx hN2 hM))
              obtain rfl : N2 = (cur ++ [Z]).length := hN2.out
              exact ⟨⟨k + 1, A2, c2, by omega, by go_num, by rw [HSUCC.out], by rw [HSUCC.out]; exact hM.subL (List.sublist_cons_self _ _)⟩, by simp [intOf]; omega⟩
          · obtain rfl : k = h := by omega
            clear hlt hk
            go_wp2_with fail
            go_ret2
            exact ⟨E, e2, rfl, hM.becomes (by exact List.Mem.head _)⟩
  · rw [if_pos hc]
    rw [if_neg hc] at HC
    have hM := Mem.start [] w
    have q1 : (chkE n != 0) = true := by simpa using hc
    generalize chkE n = ce at q1 HC ⊢
    clear hc hr hl
    go_enter Tryd.func65, Tryd.ntmps65
    go_wp2_with (first | ((with_reducible refine (HC.out _).mono ?_); rintro e w1 ⟨rfl, rfl⟩) | ((first | with_reducible refine at_load ?_ | ((with_reducible refine at_load_g ?_ ?_); (· rfl))); first | refine ll hM ?_ | refine lc hM ?_ | refine lp hM ?_) | ((with_reducible refine at_store ?_); first | (refine lw hM ?_; clear hM; intro wx hM) | (refine ls hM ?_; clear hM; intro wx hM) | (refine lt hM ?_; clear hM; intro wx hM)) | ((with_reducible refine at_alloc ?_); refine lz hM ?_; clear hM; intro gx wx hM) | ((with_reducible refine at_box ?_); refine lb hM ?_; clear hM; intro gx wx hM))
    go_ret2
    exact ⟨none, 0, rfl, rbecomes_zero none (KeptBut.refl _ _)⟩
end Go.Proofs.YtdnnjgjaffkdfaaDoor
namespace Go.Proofs.YtdnnjgjaffkdfaaDoor
open Go Go.RowKit Go.Bul Go.Thg Go.Lin
theorem qr {w : World} {C : World → Prop} {o : Oper} {a : Act} {ty : TypeId} {x : Operand} {g i m : Nat} {X : Array Value} (hX : ∀ j u, X[j]? = some u → w.cell? ⟨g, i + j, none⟩ = some u) (ho : o.op = .load ty x := by rfl) (hx : a.eval x = .pointer (some ⟨g, i, none⟩) := by rfl) (hty : RowTy Tryd.prog ty m := by first | exact row_nd | exact row_n | exact row_half | exact row_a32 | exact row_nd2 | exact row_n2 | exact row_two | exact row_claim | exact row_bld | exact row_bnds) (hm : X.size = m := by first | with_reducible exact ndC_size _ | with_reducible exact ndC2_size _ _ | exact ndC_size _ | rfl | (simp; done)) : o.quietAt Tryd.prog a C w (.agg X) := by
  have h := held_row hX ho hx hty hm
  unfold Oper.quietAt
  rw [h]
  exact ⟨rfl, rfl⟩
end Go.Proofs.YtdnnjgjaffkdfaaDoor
namespace Go.Lin
open Go
def fromF (x : Nd) (idx : Int) (path : List Nd) : Nd × Int :=
  if 10 < path.length then (nd0, 9) else if idx < 0 ∨ (2 : Int) ^ path.length ≤ idx then (nd0, 8) else (climbs idx 0 x path, 0)
theorem bitAt_nat (i k : Nat) : bitAt (i : Int) (k : Int) = decide (i / 2 ^ k % 2 = 1) := by
  unfold bitAt
  rw [Int.toNat_natCast]
  have : (i : Int) / 2 ^ k = ((i / 2 ^ k : Nat) : Int) := by simp
  rw [this]
  by_cases h : i / 2 ^ k % 2 = 1
  · rw [decide_eq_true h, decide_eq_true (by omega)]
  · rw [decide_eq_false h, decide_eq_false (by omega)]
theorem step_sib (leaves : List Nd) (i k : Nat) : stepN (i : Int) (k : Int) (nodeN leaves k (i / 2 ^ k)) (nodeN leaves k (sib (i / 2 ^ k))) = nodeN leaves (k + 1) (i / 2 ^ (k + 1)) := by
  unfold stepN pairN
  rw [bitAt_nat, Nat.pow_succ, ← Nat.div_div_eq_div_mul]
  generalize i / 2 ^ k = q
  have e : nodeN leaves (k + 1) (q / 2) = joinN ((k + 1 : Nat) : Int) (nodeN leaves k (2 * (q / 2))) (nodeN leaves k (2 * (q / 2) + 1)) := rfl
  rw [e, show ((k + 1 : Nat) : Int) = (k : Int) + 1 by omega]
  unfold sib
  by_cases h : q % 2 = 0
  · rw [if_pos h, decide_eq_false (by omega), show 2 * (q / 2) = q by omega]
    rfl
  · rw [if_neg h, decide_eq_true (by omega), show 2 * (q / 2) = q - 1 by omega, show q - 1 + 1 = q by omega]
    rfl
theorem climbs_sibs (leaves : List Nd) (i : Nat) : ∀ m k : Nat, climbs (i : Int) k (nodeN leaves k (i / 2 ^ k)) (((List.range' k m).map fun k => nodeN leaves k (sib (i / 2 ^ k)))) = nodeN leaves (k + m) (i / 2 ^ (k + m))
  | 0, k => rfl
  | m + 1, k => by
    rw [List.range'_succ, List.map_cons]
    show climbs (i : Int) (k + 1) (stepN (i : Int) (k : Int) _ _) _ = _
    rw [step_sib, climbs_sibs leaves i m (k + 1)]
    rw [show k + 1 + m = k + (m + 1) by omega]
theorem path_leads (leaves : List Nd) (h i : Nat) (hn : leaves.length = 2 ^ h) (hh : h ≤ 10) (hi : i < 2 ^ h) : fromF (nodeN leaves 0 i) (i : Int) (sibsF leaves i h) = (rootH leaves h, 0) := by
  unfold fromF
  have h2 : (2 : Int) ^ h = ((2 ^ h : Nat) : Int) := by simp
  rw [sibsF_length, if_neg (by omega), if_neg (by rw [h2]; omega)]
  have e := climbs_sibs leaves i h 0
  simp only [Nat.pow_zero, Nat.div_one, Nat.zero_add] at e
  rw [show i / 2 ^ h = 0 from Nat.div_eq_of_lt hi, rootH_node leaves h hn] at e
  unfold sibsF
  rw [List.range_eq_range', e]
theorem leaf_get (leaves : List Nd) (i : Nat) (hi : i < leaves.length) : leaves[i] = nodeN leaves 0 i := by
  simp [nodeN, List.getD_eq_getElem?_getD, hi]
end Go.Lin
namespace Go.Proofs.YtdnnjgjaffkdfaaDoor
open Go Go.RowKit Go.Bul Go.Thg Go.Lin
set_option maxRecDepth 20000 in
set_option maxHeartbeats 4000000 in
theorem from_any (x : Nd) (idx : Int) (A : Option Addr) (n c : Nat) (path : List Nd) (w : World) (hr : NIn w A n path) (hn : n ≤ 1000000) (hT : Tab w) :
    Calls Tryd.prog 48 #[.agg (ndC x), .int .i64 idx, .slice A n c] w fun e w' => e = .returned (.tuple #[.agg (ndC (fromF x idx path).1), .int .i64 (fromF x idx path).2]) ∧ Below w.heap.size w w' := by
  have hl := hr.len
  unfold fromF
  rw [← hl]
  by_cases h10 : 10 < n
  · rw [if_pos h10]
    have hM := Mem.start [] w
    have c1 : decide ((10 : Int) < (n : Int)) = true := decide_eq_true (by omega)
    have c2 : decide (10 < n) = true := decide_eq_true h10
    clear hr hl hT h10 hn
    go_enter Tryd.func48, Tryd.ntmps48
    go_wp2_with (first | ((with_reducible refine at_build ?_); refine wpList_build_zero rfl _ (by rfl) _ _ zero_nd arr_nd ?_) | ((first | with_reducible refine at_load ?_ | ((with_reducible refine at_load_g ?_ ?_); (· rfl))); first | refine ll hM ?_ | refine lc hM ?_ | refine lp hM ?_) | ((with_reducible refine at_store ?_); first | (refine lw hM ?_; clear hM; intro wx hM) | (refine ls hM ?_; clear hM; intro wx hM) | (refine lt hM ?_; clear hM; intro wx hM)) | ((with_reducible refine at_alloc ?_); refine lz hM ?_; clear hM; intro gx wx hM) | ((with_reducible refine at_box ?_); refine lb hM ?_; clear hM; intro gx wx hM))
    exact bodyPost_ret (results_mem_cell_tmp hM rfl (by rfl) (by repeat (first | exact List.Mem.head _ | apply List.Mem.tail)) (by first | exact row_nd | exact row_n | exact row_half | exact row_a32 | exact row_nd2 | exact row_n2 | exact row_two | exact row_claim | exact row_bld | exact row_bnds) (by rfl)) rfl ⟨rfl, hM.below⟩
  · rw [if_neg h10]
    have c1 : decide ((10 : Int) < (n : Int)) = false := decide_eq_false (by omega)
    have c2 : decide (10 < n) = false := decide_eq_false (by omega)
    by_cases h0 : idx < 0
    · rw [if_pos (.inl h0)]
      have hM := Mem.start [] w
      have c3 : decide (idx < 0) = true := decide_eq_true (by omega)
      clear hr hl hT h10 hn h0
      go_enter Tryd.func48, Tryd.ntmps48
      go_wp2_with (first | ((with_reducible refine at_build ?_); refine wpList_build_zero rfl _ (by rfl) _ _ zero_nd arr_nd ?_) | ((first | with_reducible refine at_load ?_ | ((with_reducible refine at_load_g ?_ ?_); (· rfl))); first | refine ll hM ?_ | refine lc hM ?_ | refine lp hM ?_) | ((with_reducible refine at_store ?_); first | (refine lw hM ?_; clear hM; intro wx hM) | (refine ls hM ?_; clear hM; intro wx hM) | (refine lt hM ?_; clear hM; intro wx hM)) | ((with_reducible refine at_alloc ?_); refine lz hM ?_; clear hM; intro gx wx hM) | ((with_reducible refine at_box ?_); refine lb hM ?_; clear hM; intro gx wx hM))
      exact bodyPost_ret (results_mem_cell_tmp hM rfl (by rfl) (by repeat (first | exact List.Mem.head _ | apply List.Mem.tail)) (by first | exact row_nd | exact row_n | exact row_half | exact row_a32 | exact row_nd2 | exact row_n2 | exact row_two | exact row_claim | exact row_bld | exact row_bnds) (by rfl)) rfl ⟨rfl, hM.below⟩
    · by_cases h1 : (2 : Int) ^ n ≤ idx
      · rw [if_pos (.inr h1)]
        have hM := Mem.start [] w
        have c3 : decide (idx < 0) = false := decide_eq_false (by omega)
        have n0 : (0 : Int) ≤ (n : Int) := Int.natCast_nonneg _
        have n1 : (n : Int) ≤ 10 := by omega
        have hp : (2 : Int) ^ n ≤ 1024 := by
          have h : (2 : Int) ^ n = ((2 ^ n : Nat) : Int) := by simp
          have h2 : 2 ^ n ≤ 2 ^ 10 := Nat.pow_le_pow_right (by decide) (by omega)
          omega
        have hp0 : (0 : Int) ≤ 2 ^ n := by
          have h : (2 : Int) ^ n = ((2 ^ n : Nat) : Int) := by simp
          rw [h]
          exact Int.natCast_nonneg _
        have c4 : wrap64 ((2 : Int) ^ n) = (2 : Int) ^ n := by unfold wrap64; omega
        have c5 : decide ((2 : Int) ^ n ≤ idx) = true := decide_eq_true h1
        clear hr hl hT h10 hn h0 h1 hp hp0
        go_enter Tryd.func48, Tryd.ntmps48
        go_wp2_with (first | ((with_reducible refine at_build ?_); refine wpList_build_zero rfl _ (by rfl) _ _ zero_nd arr_nd ?_) | ((first | with_reducible refine at_load ?_ | ((with_reducible refine at_load_g ?_ ?_); (· rfl))); first | refine ll hM ?_ | refine lc hM ?_ | refine lp hM ?_) | ((with_reducible refine at_store ?_); first | (refine lw hM ?_; clear hM; intro wx hM) | (refine ls hM ?_; clear hM; intro wx hM) | (refine lt hM ?_; clear hM; intro wx hM)) | ((with_reducible refine at_alloc ?_); refine lz hM ?_; clear hM; intro gx wx hM) | ((with_reducible refine at_box ?_); refine lb hM ?_; clear hM; intro gx wx hM))
        exact bodyPost_ret (results_mem_cell_tmp hM rfl (by rfl) (by repeat (first | exact List.Mem.head _ | apply List.Mem.tail)) (by first | exact row_nd | exact row_n | exact row_half | exact row_a32 | exact row_nd2 | exact row_n2 | exact row_two | exact row_claim | exact row_bld | exact row_bnds) (by rfl)) rfl ⟨rfl, hM.below⟩
      · rw [if_neg (by omega)]
        exact from_yes x idx A n c path w hr (by omega) (by omega) (by omega) hT
end Go.Proofs.YtdnnjgjaffkdfaaDoor
namespace Go.Bul.Hp
open Go Go.RowKit
/-- So many zeros. -/
def zeros (n : Nat) : List Nat := List.replicate n 0
@[simp] theorem zeros_length (n : Nat) : (zeros n).length = n := List.length_replicate
theorem zeros_size (k : IntKind) (n : Nat) : (cellsOf k (zeros n)).size = n := by rw [cellsOf_size, zeros_length]
/-- A block: its number, type, size, cells. -/
structure Ent where
  g : Nat
  t : TypeId
  n : Nat
  cs : Array Value
/-- A row of the call's own: its element's type and size, the slice, its length, its cells. -/
structure OwnR where
  e : TypeId
  size : Nat
  v : Value
  n : Nat
  xs : List Value
/-- All that lay before is as it was, but for the blocks of G. -/
structure KeptBut (G : List Nat) (w w' : World) : Prop where
  os : w'.os = w.os
  tape : w'.tape = w.tape
  output : w'.output = w.output
  size : w.heap.size ≤ w'.heap.size
  block : ∀ k, k < w.heap.size → k ∉ G → w'.heap[k]? = w.heap[k]?
theorem KeptBut.refl (G : List Nat) (w : World) : KeptBut G w w := ⟨rfl, rfl, rfl, Nat.le_refl _, fun _ _ _ => rfl⟩
theorem KeptBut.trans {G : List Nat} {a b c : World} (h : KeptBut G a b) (k : KeptBut G b c) : KeptBut G a c :=
  ⟨k.os.trans h.os, k.tape.trans h.tape, k.output.trans h.output, Nat.le_trans h.size k.size, fun i hi hn => (k.block i (Nat.lt_of_lt_of_le hi h.size) hn).trans (h.block i hi hn)⟩
theorem KeptBut.of_below {G : List Nat} {w w' : World} (h : Below w.heap.size w w') : KeptBut G w w' := ⟨h.os, h.tape, h.output, h.size, fun i hi _ => h.block i hi⟩
theorem KeptBut.below {w w' : World} (h : KeptBut [] w w') : Below w.heap.size w w' := ⟨h.os, h.tape, h.output, h.size, fun i hi => h.block i hi (by simp)⟩
theorem KeptBut.only {g : Nat} {w w' : World} (h : KeptBut [g] w w') : Only g w w' := ⟨h.os, h.tape, h.output, h.size, fun i hi hne => h.block i hi (by simp; rintro rfl; exact hne rfl)⟩
/-- A step that changes only what is new or in G. -/
theorem KeptBut.then {G : List Nat} {a w w' : World} (h : KeptBut G a w) (hos : w'.os = w.os) (ht : w'.tape = w.tape) (ho : w'.output = w.output) (hs : w.heap.size ≤ w'.heap.size)
    (hb : ∀ k, k < a.heap.size → k ∉ G → w'.heap[k]? = w.heap[k]?) : KeptBut G a w' :=
  ⟨hos.trans h.os, ht.trans h.tape, ho.trans h.output, Nat.le_trans h.size hs, fun i hi hn => (hb i hi hn).trans (h.block i hi hn)⟩
structure Mem (G : List Nat) (w0 : World) (L : List Ent) (R : List OwnR) (w : World) : Prop where
  old : KeptBut G w0 w
  at_ : ∀ b ∈ L, (w0.heap.size ≤ b.g ∨ b.g ∈ G) ∧ Blk w b.g b.t b.cs ∧ b.cs.size = b.n
  ne : L.Pairwise fun b c => b.g ≠ c.g
  rows : ∀ r ∈ R, w.ownsRow w0.heap.size r.e r.size r.v r.n r.xs
  apart : ∀ r ∈ R, ∀ b ∈ L, r.v.ownBlock ≠ some b.g
  rne : R.Pairwise fun r s => r.v.ownBlock = none ∨ r.v.ownBlock ≠ s.v.ownBlock
/-- Where a block stands in a list, and the list with other cells there. -/
def UpdL (g : Nat) (t : TypeId) (n : Nat) (cs : Array Value) (L : List Ent) (F : Array Value → List Ent) : Prop := ∃ A B, L = A ++ ⟨g, t, n, cs⟩ :: B ∧ ∀ cs', F cs' = A ++ ⟨g, t, n, cs'⟩ :: B
theorem UpdL.head (g : Nat) (t : TypeId) (n : Nat) (cs : Array Value) (L : List Ent) : UpdL g t n cs (⟨g, t, n, cs⟩ :: L) (fun cs' => ⟨g, t, n, cs'⟩ :: L) := ⟨[], L, rfl, fun _ => rfl⟩
theorem UpdL.tail {g : Nat} {t : TypeId} {n : Nat} {cs : Array Value} {L : List Ent} {F : Array Value → List Ent} (b : Ent) (h : UpdL g t n cs L F) : UpdL g t n cs (b :: L) (fun cs' => b :: F cs') := by
  obtain ⟨A, B, rfl, h2⟩ := h
  exact ⟨b :: A, B, rfl, fun cs' => by show _ :: _ = _; rw [h2]; rfl⟩
def UpdR (r : OwnR) (R : List OwnR) (F : OwnR → List OwnR) : Prop := ∃ A B, R = A ++ r :: B ∧ ∀ r', F r' = A ++ r' :: B
theorem UpdR.head (r : OwnR) (R : List OwnR) : UpdR r (r :: R) (fun r' => r' :: R) := ⟨[], R, rfl, fun _ => rfl⟩
theorem UpdR.tail {r : OwnR} {R : List OwnR} {F : OwnR → List OwnR} (b : OwnR) (h : UpdR r R F) : UpdR r (b :: R) (fun r' => b :: F r') := by
  obtain ⟨A, B, rfl, h2⟩ := h
  exact ⟨b :: A, B, rfl, fun cs' => by show _ :: _ = _; rw [h2]; rfl⟩
section
variable {G : List Nat} {w0 w w' : World} {L L' : List Ent} {R R' : List OwnR}
theorem Mem.start (G : List Nat) (w : World) : Mem G w [] [] w := ⟨KeptBut.refl _ _, by simp, .nil, by simp, by simp, .nil⟩
theorem Mem.blk (h : Mem G w0 L R w) {b : Ent} (hb : b ∈ L) : Blk w b.g b.t b.cs := (h.at_ b hb).2.1
theorem Mem.lt (h : Mem G w0 L R w) {b : Ent} (hb : b ∈ L) : b.g < w.heap.size := (h.blk hb).lt
theorem Mem.size (h : Mem G w0 L R w) {g : Nat} {t : TypeId} {n : Nat} {cs : Array Value} (hb : ⟨g, t, n, cs⟩ ∈ L) : cs.size = n := (h.at_ _ hb).2.2
theorem Mem.below (h : Mem [] w0 L R w) : Below w0.heap.size w0 w := h.old.below
theorem Mem.le (h : Mem G w0 L R w) : w0.heap.size ≤ w.heap.size := h.old.size
theorem Mem.same (h : Mem G w0 L R w) (hos : w'.os = w.os) (ht : w'.tape = w.tape) (ho : w'.output = w.output) (hs : w.heap.size ≤ w'.heap.size) (hb : ∀ k, k < w.heap.size → w'.heap[k]? = w.heap[k]?) : Mem G w0 L R w' := by
  have hB : Below w.heap.size w w' := ⟨hos, ht, ho, hs, hb⟩
  exact ⟨h.old.then hos ht ho hs (fun k hk _ => hb k (Nat.lt_of_lt_of_le hk h.le)), fun b hL => ⟨(h.at_ b hL).1, (h.blk hL).kept hB, (h.at_ b hL).2.2⟩, h.ne,
    fun r hr => World.ownsRow.kept (h.rows r hr) (row := none) ⟨hos, ht, ho, hs, fun i hi _ => hb i hi⟩ (by cases r.v.ownBlock <;> simp), h.apart, h.rne⟩
theorem Mem.step (h : Mem G w0 L R w) (hb : Below w.heap.size w w') : Mem G w0 L R w' := h.same hb.os hb.tape hb.output hb.size hb.block
theorem Mem.drew (h : Mem G w0 L R w) : Mem G w0 L R w.drew := h.same rfl rfl rfl (Nat.le_refl _) fun _ _ => rfl
theorem Mem.new (h : Mem G w0 L R w) (hb : Below w.heap.size w w') {g : Nat} {t : TypeId} {n : Nat} {cs : Array Value} (hg : w.heap.size ≤ g) (hB : Blk w' g t cs) (hn : cs.size = n) : Mem G w0 (⟨g, t, n, cs⟩ :: L) R w' := by
  have k := h.step hb
  refine ⟨k.old, ?_, ?_, k.rows, ?_, k.rne⟩
  · intro b hb
    rcases List.mem_cons.1 hb with rfl | hb
    · exact ⟨.inl (Nat.le_trans h.le hg), hB, hn⟩
    · exact k.at_ b hb
  · refine List.Pairwise.cons (fun b hb => ?_) k.ne
    have := h.lt hb
    show g ≠ b.g
    omega
  · intro r hr b hb
    rcases List.mem_cons.1 hb with rfl | hb
    · intro he
      have := (World.ownsRow.lt (h.rows r hr) _ he).2
      simp only at this
      omega
    · exact k.apart r hr b hb
theorem Mem.alloc (h : Mem G w0 L R w) (cs : Array Value) (t : TypeId) {n : Nat} (hn : cs.size = n) : Mem G w0 (⟨w.heap.size, t, n, cs⟩ :: L) R (w.alloc (.cells cs t)) :=
  h.new ((Below.refl _ _).alloc (Nat.le_refl _) _) (Nat.le_refl _) (Blk.new w _ _) hn
theorem Mem.newRow (h : Mem G w0 L R w) (hb : Below w.heap.size w w') {r : OwnR} (hr : w'.ownsRow w.heap.size r.e r.size r.v r.n r.xs) : Mem G w0 L (r :: R) w' := by
  have k := h.step hb
  have hlt := World.ownsRow.lt hr
  refine ⟨k.old, k.at_, k.ne, ?_, ?_, ?_⟩
  · intro s hs
    rcases List.mem_cons.1 hs with rfl | hs
    · refine ⟨hr.1, hr.2.imp id fun ⟨g, cap, cur, e, hbg, rest⟩ => ⟨g, cap, cur, e, Nat.le_trans h.le hbg, rest⟩⟩
    · exact k.rows s hs
  · intro s hs b hb
    rcases List.mem_cons.1 hs with rfl | hs
    · intro he
      have h1 := (hlt _ he).1
      have h2 := h.lt hb
      omega
    · exact k.apart s hs b hb
  · refine List.Pairwise.cons (fun s hs => ?_) k.rne
    cases hv : r.v.ownBlock with
    | none => exact .inl rfl
    | some j =>
      refine .inr fun he => ?_
      have h1 := (hlt _ hv).1
      have h2 := (World.ownsRow.lt (h.rows s hs) _ he.symm).2
      omega
theorem Mem.subL (h : Mem G w0 L R w) (hs : L'.Sublist L) : Mem G w0 L' R w :=
  ⟨h.old, fun b hb => h.at_ b (hs.subset hb), h.ne.sublist hs, h.rows, fun r hr b hb => h.apart r hr b (hs.subset hb), h.rne⟩
theorem Mem.subR (h : Mem G w0 L R w) (hs : R'.Sublist R) : Mem G w0 L R' w :=
  ⟨h.old, h.at_, h.ne, fun r hr => h.rows r (hs.subset hr), fun r hr b hb => h.apart r (hs.subset hr) b hb, h.rne.sublist hs⟩
/-! Names for the blocks of a list. -/
theorem Mem.name1 {g n : Nat} {t : TypeId} {cs : Array Value} (_ : Mem G w0 (⟨g, t, n, cs⟩ :: L) R w) : ∃ x, x = g := ⟨_, rfl⟩
theorem Mem.name2 {g n : Nat} {t : TypeId} {cs : Array Value} {e1 : Ent} (_ : Mem G w0 (e1 :: ⟨g, t, n, cs⟩ :: L) R w) : ∃ x, x = g := ⟨_, rfl⟩
theorem Mem.name3 {g n : Nat} {t : TypeId} {cs : Array Value} {e1 e2 : Ent} (_ : Mem G w0 (e1 :: e2 :: ⟨g, t, n, cs⟩ :: L) R w) : ∃ x, x = g := ⟨_, rfl⟩
theorem Mem.name4 {g n : Nat} {t : TypeId} {cs : Array Value} {e1 e2 e3 : Ent} (_ : Mem G w0 (e1 :: e2 :: e3 :: ⟨g, t, n, cs⟩ :: L) R w) : ∃ x, x = g := ⟨_, rfl⟩
theorem Mem.name5 {g n : Nat} {t : TypeId} {cs : Array Value} {e1 e2 e3 e4 : Ent} (_ : Mem G w0 (e1 :: e2 :: e3 :: e4 :: ⟨g, t, n, cs⟩ :: L) R w) : ∃ x, x = g := ⟨_, rfl⟩
/-- The cells of one block turn. -/
theorem Mem.put {g : Nat} {t : TypeId} {n : Nat} {cs cs' : Array Value} {F : Array Value → List Ent} (h : Mem G w0 L R w) (hu : UpdL g t n cs L F) (ho : Only g w w') (hB : Blk w' g t cs') (hn : cs'.size = n) : Mem G w0 (F cs') R w' := by
  obtain ⟨A, B, rfl, hF⟩ := hu
  rw [hF]
  have hin : (⟨g, t, n, cs⟩ : Ent) ∈ A ++ ⟨g, t, n, cs⟩ :: B := by simp
  have hne := h.ne
  rw [List.pairwise_append] at hne
  obtain ⟨n1, n2, n3⟩ := hne
  rw [List.pairwise_cons] at n2
  have hold : ∀ b, (b ∈ A ∨ b ∈ B) → b ∈ A ++ ⟨g, t, n, cs⟩ :: B ∧ b.g ≠ g := by
    intro b hb
    rcases hb with hb | hb
    · exact ⟨by simp [hb], n3 b hb ⟨g, t, n, cs⟩ (by simp)⟩
    · exact ⟨by simp [hb], fun he => n2.1 b hb he.symm⟩
  refine ⟨h.old.then ho.os ho.tape ho.output ho.size (fun k hk hG => ho.block k (Nat.lt_of_lt_of_le hk h.le) ?_), ?_, ?_, ?_, ?_, h.rne⟩
  · rintro ⟨⟩
    rcases (h.at_ _ hin).1 with h1 | h1
    · simp only at h1
      omega
    · exact hG h1
  · intro b hb
    rcases List.mem_append.1 hb with hb | hb
    · obtain ⟨h1, h2⟩ := hold b (.inl hb)
      exact ⟨(h.at_ b h1).1, (h.blk h1).only ho h2, (h.at_ b h1).2.2⟩
    · rcases List.mem_cons.1 hb with rfl | hb
      · exact ⟨(h.at_ _ hin).1, hB, hn⟩
      · obtain ⟨h1, h2⟩ := hold b (.inr hb)
        exact ⟨(h.at_ b h1).1, (h.blk h1).only ho h2, (h.at_ b h1).2.2⟩
  · rw [List.pairwise_append]
    refine ⟨n1, List.pairwise_cons.2 ⟨n2.1, n2.2⟩, fun b hb c hc => ?_⟩
    rcases List.mem_cons.1 hc with rfl | hc
    · exact n3 b hb ⟨g, t, n, cs⟩ (by simp)
    · exact n3 b hb c (by simp [hc])
  · intro r hr
    exact World.ownsRow.kept (h.rows r hr) ho (.inr (h.apart r hr _ hin))
  · intro r hr b hb
    rcases List.mem_append.1 hb with hb | hb
    · exact h.apart r hr b (hold b (.inl hb)).1
    · rcases List.mem_cons.1 hb with rfl | hb
      · exact h.apart r hr ⟨g, t, n, cs⟩ hin
      · exact h.apart r hr b (hold b (.inr hb)).1
theorem Mem.setCell {g : Nat} {t : TypeId} {n : Nat} {cs : Array Value} {F : Array Value → List Ent} (h : Mem G w0 L R w) (hu : UpdL g t n cs L F) (i : Nat) (v : Value) : Mem G w0 (F (cs.setIfInBounds i v)) R (w.setCell ⟨g, i, none⟩ v) := by
  have hin : (⟨g, t, n, cs⟩ : Ent) ∈ L := by obtain ⟨A, B, rfl, _⟩ := hu; simp
  exact h.put hu ((Only.refl g w).setCell i v) ((h.blk hin).set i v) (by have := h.size hin; simpa using this)
theorem Mem.apart2 {g g' n n' : Nat} {t t' : TypeId} {cs cs' : Array Value} {L1 L2 L3 : List Ent} (h : Mem G w0 (L1 ++ ⟨g, t, n, cs⟩ :: (L2 ++ ⟨g', t', n', cs'⟩ :: L3)) R w) : g ≠ g' := by
  have := h.ne
  rw [List.pairwise_append] at this
  have h2 := this.2.1
  rw [List.pairwise_cons] at h2
  exact h2.1 ⟨g', t', n', cs'⟩ (by simp)
/-- A row grows or turns. -/
theorem Mem.rowPut {r r' : OwnR} {F : OwnR → List OwnR} (h : Mem G w0 L R w) (hu : UpdR r R F) (hg : w.grownBy w' r.v.ownBlock) (hr : w'.ownsRow w0.heap.size r'.e r'.size r'.v r'.n r'.xs)
    (ho : r'.v.ownBlock = r.v.ownBlock ∨ r'.v.ownBlock = some w.heap.size) : Mem G w0 L (F r') w' := by
  obtain ⟨A, B, rfl, hF⟩ := hu
  rw [hF]
  have hin : r ∈ A ++ r :: B := by simp
  have hbase : ∀ k, r.v.ownBlock = some k → w0.heap.size ≤ k ∧ k < w.heap.size := World.ownsRow.lt (h.rows r hin)
  have hne := h.rne
  rw [List.pairwise_append] at hne
  obtain ⟨n1, n2, n3⟩ := hne
  rw [List.pairwise_cons] at n2
  have hold : ∀ s, (s ∈ A ∨ s ∈ B) → s ∈ A ++ r :: B ∧ (s.v.ownBlock = none ∨ s.v.ownBlock ≠ r.v.ownBlock) := by
    intro s hs
    rcases hs with hs | hs
    · exact ⟨by simp [hs], n3 s hs _ (by simp)⟩
    · refine ⟨by simp [hs], ?_⟩
      rcases n2.1 s hs with h1 | h1
      · cases hv : s.v.ownBlock with
        | none => exact .inl rfl
        | some j => exact .inr (by rw [h1]; simp)
      · exact .inr fun he => h1 he.symm
  have hnew : ∀ s, (s ∈ A ∨ s ∈ B) → s.v.ownBlock = none ∨ s.v.ownBlock ≠ r'.v.ownBlock := by
    intro s hs
    obtain ⟨h1, h2⟩ := hold s hs
    rcases h2 with h2 | h2
    · exact .inl h2
    · refine .inr fun he => ?_
      rcases ho with h3 | h3
      · exact h2 (he.trans h3)
      · have := (World.ownsRow.lt (h.rows s h1) _ (he.trans h3)).2
        omega
  refine ⟨h.old.then hg.os hg.tape hg.output hg.size (fun k hk _ => hg.block k (Nat.lt_of_lt_of_le hk h.le) ?_), ?_, h.ne, ?_, ?_, ?_⟩
  · intro he
    have := (hbase k he.symm).1
    omega
  · intro b hb
    refine ⟨(h.at_ b hb).1, ?_, (h.at_ b hb).2.2⟩
    exact (hg.block _ (h.lt hb) (fun he => h.apart r hin b hb he.symm)).trans (h.blk hb)
  · intro s hs
    rcases List.mem_append.1 hs with hs | hs
    · obtain ⟨h1, h2⟩ := hold s (.inl hs)
      exact World.ownsRow.kept (h.rows s h1) hg h2
    · rcases List.mem_cons.1 hs with rfl | hs
      · exact hr
      · obtain ⟨h1, h2⟩ := hold s (.inr hs)
        exact World.ownsRow.kept (h.rows s h1) hg h2
  · intro s hs b hb
    rcases List.mem_append.1 hs with hs | hs
    · exact h.apart s (hold s (.inl hs)).1 b hb
    · rcases List.mem_cons.1 hs with rfl | hs
      · rcases ho with h3 | h3
        · rw [h3]; exact h.apart r hin b hb
        · rw [h3]
          have := h.lt hb
          simp only [ne_eq, Option.some.injEq]
          omega
      · exact h.apart s (hold s (.inr hs)).1 b hb
  · rw [List.pairwise_append]
    refine ⟨n1, List.pairwise_cons.2 ⟨fun s hs => ?_, n2.2⟩, fun s hs c hc => ?_⟩
    · cases hv : r'.v.ownBlock with
      | none => exact .inl rfl
      | some j =>
        refine .inr fun he => ?_
        rcases hnew s (.inr hs) with h1 | h1
        · rw [h1] at he; cases he
        · exact h1 (by rw [← he, hv])
    · rcases List.mem_cons.1 hc with rfl | hc
      · exact hnew s (.inl hs)
      · exact n3 s hs c (by simp [hc])
end
/-! ### Operations -/
/-! Which operation comes next (for the walk's arms). -/
section
variable {P : Program} {w : World} {ops : Array Oper} {rest : List Oper} {a : Act} {Q : Exit → Act → World → Prop} {dst : Option Tmp} {type : TypeId} {pos : String} {after : Array Edge}
theorem at_load {t : TypeId} {x : Operand} (h : wpList P ops Q (⟨dst, .load t x, type, pos, after, none⟩ :: rest) a w) : wpList P ops Q (⟨dst, .load t x, type, pos, after, none⟩ :: rest) a w := h
theorem at_store {t : TypeId} {x y : Operand} (h : wpList P ops Q (⟨dst, .store t x y, type, pos, after, none⟩ :: rest) a w) : wpList P ops Q (⟨dst, .store t x y, type, pos, after, none⟩ :: rest) a w := h
theorem at_alloc {t : TypeId} (h : wpList P ops Q (⟨dst, .alloc t, type, pos, after, none⟩ :: rest) a w) : wpList P ops Q (⟨dst, .alloc t, type, pos, after, none⟩ :: rest) a w := h
theorem at_box {t : TypeId} {x : Operand} (h : wpList P ops Q (⟨dst, .box t x, type, pos, after, none⟩ :: rest) a w) : wpList P ops Q (⟨dst, .box t x, type, pos, after, none⟩ :: rest) a w := h
theorem at_build {t : TypeId} {ps : Array (Nat × Operand)} (h : wpList P ops Q (⟨dst, .build t ps, type, pos, after, none⟩ :: rest) a w) : wpList P ops Q (⟨dst, .build t ps, type, pos, after, none⟩ :: rest) a w := h
theorem at_append {xs : Array Operand} {ts : Array TypeId} (h : wpList P ops Q (⟨dst, .call { callee := .builtin .append, args := xs, argTypes := ts }, type, pos, after, none⟩ :: rest) a w) : wpList P ops Q (⟨dst, .call { callee := .builtin .append, args := xs, argTypes := ts }, type, pos, after, none⟩ :: rest) a w := h
end
theorem at_load_g {P : Program} {w : World} {ops : Array Oper} {rest : List Oper} {a : Act} {Q : Exit → Act → World → Prop} {dst : Option Tmp} {type : TypeId} {pos : String} {after : Array Edge} {t : TypeId} {x : Operand} {g : Nat × Bool}
    (hw : Region.wanted ⟨dst, .load t x, type, pos, after, some g⟩ (yielded ops a.tmps) = true) (h : wpList P ops Q (⟨dst, .load t x, type, pos, after, none⟩ :: rest) a w) : wpList P ops Q (⟨dst, .load t x, type, pos, after, some g⟩ :: rest) a w := by
  unfold wpList at h ⊢
  rw [if_pos hw]
  rw [if_pos (by simp [Region.wanted])] at h
  exact h
theorem at_calls {P : Program} {f : FuncId} {args : Array Value} {w : World} {X : Ending → World → Prop} (h : Calls P f args w X) : Calls P f args w X := h
/-- The number with an index; a word of its own, so that the walk leaves it as it is. -/
def nth (l : List Nat) (i : Nat) : Nat := l.getD i 0
/-- A type of several cells; a type of one cell. -/
structure RowTy (P : Program) (ty : TypeId) (n : Nat) : Prop where
  ex : ∃ d, P.underlying ty = some d ∧ isRow d = true ∧ (P.info? ty).map (·.size) = some n
structure OneTy (P : Program) (ty : TypeId) : Prop where
  ex : ∃ d, P.underlying ty = some d ∧ isRow d = false ∧ (P.info? ty).map (·.size) = some 1
section
variable {P : Program} {w w0 : World} {G : List Nat} {L : List Ent} {R : List OwnR} {ops : Array Oper} {rest : List Oper} {o : Oper} {a : Act} {Q : Exit → Act → World → Prop}
theorem run_load_one {ty : TypeId} (hty : OneTy P ty) {g i : Nat} {t : TypeId} {cs : Array Value} {v : Value} (hB : Blk w g t cs) (hv : cs[i]? = some v) : (loadVar ty ⟨g, i, none⟩).run P w = .ok v w := by
  obtain ⟨d, hu, hd, _⟩ := hty.ex
  have hc := hB.cell i
  rw [hv] at hc
  simp [loadVar, Sem.run_bind, run_isAgg_no hu hd, hc]
theorem run_store_one {ty : TypeId} (hty : OneTy P ty) {g i : Nat} {t : TypeId} {cs : Array Value} {v : Value} (hB : Blk w g t cs) (hi : i < cs.size) (h1 : v.oneCell' = true) :
    (storeVar ty ⟨g, i, none⟩ v).run P w = .ok () (w.setRow g (cs.setIfInBounds i v)) := by
  obtain ⟨d, hu, hd, hs⟩ := hty.ex
  have hc : v.cells = #[v] := by cases v <;> simp_all [Value.cells, Value.oneCell']
  have := run_storeCells_at P g i t [v] 0 cs w hB (by simp; omega) (by simpa using h1)
  simp only [Nat.add_zero] at this
  simp only [storeVar, hc, Sem.run_bind, run_sizeOf hs, Result.andThen_ok, List.size_toArray, List.length_cons, List.length_nil, ne_eq, not_true_eq_false, if_false, this]
  congr 2
  apply Array.ext'
  simp [List.set_eq_take_append_cons_drop, hi]
theorem wpList_mem_load (hM : Mem G w0 L R w) (hgd : o.guard = none) (ty : TypeId) (x : Operand) (ho : o.op = .load ty x) (g : Nat) (hx : a.eval x = .pointer (some ⟨g, 0, none⟩))
    (t : TypeId) (n : Nat) (cs : Array Value) (hL : ⟨g, t, n, cs⟩ ∈ L) (hty : RowTy P ty n) (h : wpList P ops Q rest (a.put o.dst (.agg cs)) w) : wpList P ops Q (o :: rest) a w := by
  obtain ⟨d, hu, hd, hi⟩ := hty.ex
  exact wpList_load_blk hgd ty x ho g hx t cs n d (hM.blk hL) hu hd hi (hM.size hL) h
theorem wpList_mem_part (hM : Mem G w0 L R w) (hgd : o.guard = none) (ty : TypeId) (x : Operand) (ho : o.op = .load ty x) (g off : Nat) (hx : a.eval x = .pointer (some ⟨g, off, none⟩))
    (t : TypeId) (n : Nat) (cs : Array Value) (hL : ⟨g, t, n, cs⟩ ∈ L) (m : Nat) (hty : RowTy P ty m) (hm : off + m ≤ n) (X : Array Value) (hX : cs.extract off (off + m) = X)
    (h : wpList P ops Q rest (a.put o.dst (.agg X)) w) : wpList P ops Q (o :: rest) a w := by
  obtain ⟨d, hu, hd, hi⟩ := hty.ex
  exact wpList_load_part hgd ty x ho g off hx t cs m d (hM.blk hL) hu hd hi (by have := hM.size hL; omega) X hX h
theorem wpList_mem_cell (hM : Mem G w0 L R w) (hgd : o.guard = none) (ty : TypeId) (x : Operand) (ho : o.op = .load ty x) (g i : Nat) (hx : a.eval x = .pointer (some ⟨g, i, none⟩))
    (t : TypeId) (n : Nat) (cs : Array Value) (hL : ⟨g, t, n, cs⟩ ∈ L) (hty : OneTy P ty) (v : Value) (hv : cs[i]? = some v)
    (h : wpList P ops Q rest (a.put o.dst v) w) : wpList P ops Q (o :: rest) a w :=
  wpList_plain hgd fun K hK => by
    unfold Oper.wp execOp
    simp only [ho, hx, Instr.loadAt, Instr.sureAddr, Sem.run_bind, Sem.run_pure, Result.andThen_ok, run_load_one hty (hM.blk hL) hv]
    exact hK _ _ h
/-- A number out of a block of numbers. -/
theorem wpList_mem_num (hM : Mem G w0 L R w) (hgd : o.guard = none) (ty : TypeId) (x : Operand) (ho : o.op = .load ty x) (g i : Nat) (hx : a.eval x = .pointer (some ⟨g, i, none⟩))
    (t : TypeId) (n : Nat) (k : IntKind) (l : List Nat) (hL : ⟨g, t, n, cellsOf k l⟩ ∈ L) (hty : OneTy P ty) (hi : i < n)
    (h : wpList P ops Q rest (a.put o.dst (.int k (nth l i : Nat))) w) : wpList P ops Q (o :: rest) a w :=
  wpList_mem_cell hM hgd ty x ho g i hx t n _ hL hty _ (cellsOf_get k l i (by have := hM.size hL; simp at this; omega)) h
theorem wpList_mem_store (hM : Mem G w0 L R w) (hgd : o.guard = none) (ty : TypeId) (x y : Operand) (ho : o.op = .store ty x y) (g : Nat) (hx : a.eval x = .pointer (some ⟨g, 0, none⟩))
    (vs : Array Value) (hy : a.eval y = .agg vs) (t : TypeId) (n : Nat) (cs : Array Value) (F : Array Value → List Ent) (hL : UpdL g t n cs L F) (hty : RowTy P ty n) (hv : vs.size = n) (h1 : ∀ v ∈ vs.toList, v.oneCell' = true)
    (hdst : o.dst = none) (h : ∀ w', Mem G w0 (F vs) R w' → wpList P ops Q rest a w') : wpList P ops Q (o :: rest) a w := by
  obtain ⟨d, hu, hd, hi⟩ := hty.ex
  have hin : (⟨g, t, n, cs⟩ : Ent) ∈ L := by obtain ⟨A, B, rfl, _⟩ := hL; simp
  have hb := hM.blk hin
  exact wpList_store_blk hgd ty x y ho g hx vs hy t cs n hb hi hv (hM.size hin) h1 hdst fun w' hw' => h w' (hM.put hL (hw' ▸ (Only.refl g w).setRow vs) (hw' ▸ hb.row vs) hv)
theorem wpList_mem_store_part (hM : Mem G w0 L R w) (hgd : o.guard = none) (ty : TypeId) (x y : Operand) (ho : o.op = .store ty x y) (g off : Nat) (hx : a.eval x = .pointer (some ⟨g, off, none⟩))
    (vs : Array Value) (hy : a.eval y = .agg vs) (t : TypeId) (n : Nat) (cs : Array Value) (F : Array Value → List Ent) (hL : UpdL g t n cs L F) (m : Nat) (hty : RowTy P ty m) (hv : vs.size = m) (hm : off + m ≤ n) (h1 : ∀ v ∈ vs.toList, v.oneCell' = true)
    (hdst : o.dst = none) (X : Array Value) (hX : (splice cs.toList off vs.toList).toArray = X) (h : ∀ w', Mem G w0 (F X) R w' → wpList P ops Q rest a w') : wpList P ops Q (o :: rest) a w := by
  obtain ⟨d, hu, hd, hi⟩ := hty.ex
  have hin : (⟨g, t, n, cs⟩ : Ent) ∈ L := by obtain ⟨A, B, rfl, _⟩ := hL; simp
  have hb := hM.blk hin
  have hs := hM.size hin
  have hXs : X.size = n := by rw [← hX]; simp [splice]; omega
  exact wpList_store_part hgd ty x y ho g off hx vs hy t cs m hb hi hv (by omega) h1 hdst fun w' hw' => h w' (by rw [hX] at hw'; exact hM.put hL (hw' ▸ (Only.refl g w).setRow X) (hw' ▸ hb.row X) hXs)
theorem wpList_mem_set (hM : Mem G w0 L R w) (hgd : o.guard = none) (ty : TypeId) (x y : Operand) (ho : o.op = .store ty x y) (g i : Nat) (hx : a.eval x = .pointer (some ⟨g, i, none⟩))
    (v : Value) (hy : a.eval y = v) (t : TypeId) (n : Nat) (cs : Array Value) (F : Array Value → List Ent) (hL : UpdL g t n cs L F) (hty : OneTy P ty) (hi : i < n) (h1 : v.oneCell' = true)
    (hdst : o.dst = none) (h : ∀ w', Mem G w0 (F (cs.setIfInBounds i v)) R w' → wpList P ops Q rest a w') : wpList P ops Q (o :: rest) a w := by
  have hin : (⟨g, t, n, cs⟩ : Ent) ∈ L := by obtain ⟨A, B, rfl, _⟩ := hL; simp
  have hb := hM.blk hin
  have hs := hM.size hin
  have hic : i < cs.size := by omega
  have hrun := run_store_one (w := w) (v := v) hty hb hic h1
  refine wpList_plain hgd fun K hK => ?_
  unfold Oper.wp execOp
  simp only [ho, hx, hy, Instr.storeAt, Instr.sureAddr, Sem.run_bind, Sem.run_pure, Result.andThen_ok, hrun]
  show K (a.put o.dst undef) _
  rw [hdst]
  exact hK _ _ (h _ (hM.put hL ((Only.refl g w).setRow _) (hb.row _) (by simpa using hs)))
/-- A number into a block of numbers. -/
theorem wpList_mem_setnum (hM : Mem G w0 L R w) (hgd : o.guard = none) (ty : TypeId) (x y : Operand) (ho : o.op = .store ty x y) (g i : Nat) (hx : a.eval x = .pointer (some ⟨g, i, none⟩))
    (k : IntKind) (z : Int) (hy : a.eval y = .int k z) (t : TypeId) (n : Nat) (l : List Nat) (F : Array Value → List Ent) (hL : UpdL g t n (cellsOf k l) L F) (hty : OneTy P ty) (hi : i < n) (v : Nat) (hv : z = (v : Int))
    (hdst : o.dst = none) (h : ∀ w', Mem G w0 (F (cellsOf k (l.set i v))) R w' → wpList P ops Q rest a w') : wpList P ops Q (o :: rest) a w := by
  subst hv
  exact wpList_mem_set hM hgd ty x y ho g i hx _ hy t n _ F hL hty hi rfl hdst fun w' hw' => h w' (by rw [cellsOf_set] at hw'; exact hw')
theorem wpList_mem_alloc (hM : Mem G w0 L R w) (hgd : o.guard = none) (ty : TypeId) (ho : o.op = .alloc ty) (z : Value) (hz : (P.info? ty).map (·.zero) = some (some z)) (n : Nat) (hn : z.cells.size = n)
    (h : ∀ g w', Mem G w0 (⟨g, ty, n, z.cells⟩ :: L) R w' → wpList P ops Q rest (a.put o.dst (.pointer (some ⟨g, 0, none⟩))) w') : wpList P ops Q (o :: rest) a w :=
  wpList_alloc_zero hgd ty ho z hz (h _ _ (hM.alloc _ _ hn))
theorem wpList_mem_box (hM : Mem G w0 L R w) (hgd : o.guard = none) (ty : TypeId) (x : Operand) (ho : o.op = .box ty x) (cs : Array Value) (hx : a.eval x = .agg cs) (n : Nat) (_ : RowTy P ty n) (hn : cs.size = n)
    (h : ∀ g w', Mem G w0 (⟨g, ty, n, cs⟩ :: L) R w' → wpList P ops Q rest (a.put o.dst (.pointer (some ⟨g, 0, none⟩))) w') : wpList P ops Q (o :: rest) a w :=
  wpList_plain hgd fun K hK => by
    unfold Oper.wp execOp
    simp only [ho, hx, Instr.box, newVar, newRow, newObj, Sem.run_bind, Sem.run_pure, Value.cells]
    exact hK _ _ (h _ _ (hM.alloc cs ty hn))
/-- The zero value of a type, as cells. -/
structure ZeroTy (P : Program) (ty : TypeId) (n : Nat) (cs : Array Value) : Prop where
  ex : ∃ z, (P.info? ty).map (·.zero) = some (some z) ∧ z.cells = cs ∧ cs.size = n
theorem wpList_mem_zero (hM : Mem G w0 L R w) (hgd : o.guard = none) (ty : TypeId) (ho : o.op = .alloc ty) (n : Nat) (cs : Array Value) (hz : ZeroTy P ty n cs)
    (h : ∀ g w', Mem G w0 (⟨g, ty, n, cs⟩ :: L) R w' → wpList P ops Q rest (a.put o.dst (.pointer (some ⟨g, 0, none⟩))) w') : wpList P ops Q (o :: rest) a w := by
  obtain ⟨z, hzz, rfl, hn⟩ := hz.ex
  exact wpList_mem_alloc hM hgd ty ho z hzz n hn h
structure ArrTy (P : Program) (ty : TypeId) : Prop where
  ex : ∃ m e k, P.underlying ty = some (.array m e) ∧ (P.info? e).map (·.size) = some k
/-- The zero value of an array type, written 'T{}'. -/
theorem wpList_build_zero (hgd : o.guard = none) (ty : TypeId) (ho : o.op = .build ty #[]) (n : Nat) (cs : Array Value) (hz : ZeroTy P ty n cs) (hA : ArrTy P ty)
    (h : wpList P ops Q rest (a.put o.dst (.agg cs)) w) : wpList P ops Q (o :: rest) a w := by
  obtain ⟨z, hzz, rfl, _⟩ := hz.ex
  obtain ⟨m, e, k, hu, he⟩ := hA.ex
  refine wpList_plain hgd fun K hK => ?_
  cases hq : P.info? ty with
  | none => simp [hq] at hzz
  | some i =>
    have hz' : i.zero = some z := by simpa [hq] using hzz
    have hzr : (zeroValue ty).run P w = .ok z w := by simp [zeroValue, typeInfo, hq, hz']
    unfold Oper.wp execOp
    simp only [ho, Instr.build, Sem.run_bind, hzr, run_underlying hu, Result.andThen_ok, run_sizeOf he, Array.map_empty, Instr.fill, Sem.run_pure]
    exact hK _ _ h
/-- A block that was laid anew gets into the list. -/
theorem wpList_mem_new (k : IntKind) (xs : List Nat) {cs : Array Value} {t : TypeId} (hM : Mem G w0 L R w) (hcs : cs = cellsOf k xs) {l : List Oper} (h : ∀ w', Mem G w0 (⟨w.heap.size, t, xs.length, cellsOf k xs⟩ :: L) R w' → wpList P ops Q l a w') : wpList P ops Q l a (w.alloc (.cells cs t)) :=
  h _ (by rw [hcs]; exact hM.alloc _ _ (by simp))
theorem results_mem_cell (hM : Mem G w0 L R w) {fn : Func} {p : Tmp} {ty : TypeId} (h : fn.results = #[.cell p ty]) {tmps : Array Value} {g : Nat} (hp : tmps.getD p undef = .pointer (some ⟨g, 0, none⟩)) {t : TypeId} {n : Nat} {cs : Array Value}
    (hL : ⟨g, t, n, cs⟩ ∈ L) (hty : RowTy P ty n) : (results fn tmps).run P w = .ok (.agg cs) w := by
  obtain ⟨d, hu, hd, hi⟩ := hty.ex
  exact results_cell_row h tmps w g t cs (0, 0) d hp (hM.blk hL) hu (by cases d <;> simp_all [isRow]) (by rw [hi, hM.size hL])
theorem results_mem_cell_tmp (hM : Mem G w0 L R w) {fn : Func} {p u : Tmp} {ty : TypeId} (h : fn.results = #[.cell p ty, .tmp u]) {tmps : Array Value} {g : Nat} (hp : tmps.getD p undef = .pointer (some ⟨g, 0, none⟩)) {t : TypeId} {n : Nat} {cs : Array Value}
    (hL : ⟨g, t, n, cs⟩ ∈ L) (hty : RowTy P ty n) {e : Value} (he : tmps.getD u undef = e) : (results fn tmps).run P w = .ok (.tuple #[.agg cs, e]) w := by
  obtain ⟨d, hu, hd, hi⟩ := hty.ex
  rw [results_cell_tmp h, hp, he]
  have hl := run_loadVar_row (P := P) w g t ty cs (0, 0) d (hM.blk hL) hu (by cases d <;> simp_all [isRow]) (by rw [hi, hM.size hL])
  simp [asAddr, hl]
/-! ### In a region whose order is drawn -/
section
variable {C : World → Prop}
theorem quietAt_mem_load (hM : Mem G w0 L R w) (ty : TypeId) (x : Operand) (ho : o.op = .load ty x) (g : Nat) (hx : a.eval x = .pointer (some ⟨g, 0, none⟩)) (t : TypeId) (n : Nat) (cs : Array Value) (hL : ⟨g, t, n, cs⟩ ∈ L) (hty : RowTy P ty n) :
    o.quietAt P a C w (.agg cs) := by
  obtain ⟨d, hu, hd, hi⟩ := hty.ex
  have hs := hM.size hL
  exact quietAt_load ty x ho g 0 hx t cs n d (hM.blk hL) hu hd hi (by omega) cs (by simp [← hs])
theorem quietAt_mem_part (hM : Mem G w0 L R w) (ty : TypeId) (x : Operand) (ho : o.op = .load ty x) (g off : Nat) (hx : a.eval x = .pointer (some ⟨g, off, none⟩)) (t : TypeId) (n : Nat) (cs : Array Value) (hL : ⟨g, t, n, cs⟩ ∈ L) (m : Nat) (hty : RowTy P ty m)
    (hm : off + m ≤ n) (X : Array Value) (hX : cs.extract off (off + m) = X) : o.quietAt P a C w (.agg X) := by
  obtain ⟨d, hu, hd, hi⟩ := hty.ex
  have hs := hM.size hL
  exact quietAt_load ty x ho g off hx t cs m d (hM.blk hL) hu hd hi (by omega) X hX
theorem quietAt_mem_cell (hM : Mem G w0 L R w) (ty : TypeId) (x : Operand) (ho : o.op = .load ty x) (g i : Nat) (hx : a.eval x = .pointer (some ⟨g, i, none⟩)) (t : TypeId) (n : Nat) (cs : Array Value) (hL : ⟨g, t, n, cs⟩ ∈ L) (hty : OneTy P ty) (v : Value) (hv : cs[i]? = some v) :
    o.quietAt P a C w v := by
  unfold Oper.quietAt execOp
  simp only [ho, hx, Instr.loadAt, Instr.sureAddr, Sem.run_bind, Sem.run_pure, Result.andThen_ok, run_load_one hty (hM.blk hL) hv]
  exact ⟨rfl, rfl⟩
theorem quietAt_mem_num (hM : Mem G w0 L R w) (ty : TypeId) (x : Operand) (ho : o.op = .load ty x) (g i : Nat) (hx : a.eval x = .pointer (some ⟨g, i, none⟩)) (t : TypeId) (n : Nat) (k : IntKind) (l : List Nat) (hL : ⟨g, t, n, cellsOf k l⟩ ∈ L) (hty : OneTy P ty) (hi : i < n) :
    o.quietAt P a C w (.int k (nth l i : Nat)) :=
  quietAt_mem_cell hM ty x ho g i hx t n _ hL hty _ (cellsOf_get k l i (by have := hM.size hL; simp at this; omega))
theorem quiet_mem_call {f : FuncId} {args : Array Value} {w' : World} {v : Value} (hM : Mem G w0 L R w') (h : Calls P f args w' fun e w'' => e = .returned v ∧ Below w'.heap.size w' w'') :
    Calls P f args w' fun e w'' => e = .returned v ∧ Mem G w0 L R w'' := h.mono fun _ _ ⟨he, hb⟩ => ⟨he, hM.step hb⟩
theorem quiet_mem_call_same {f : FuncId} {args : Array Value} {w' : World} {v : Value} (hM : Mem G w0 L R w') (h : Calls P f args w' fun e w'' => e = .returned v ∧ w' = w'') :
    Calls P f args w' fun e w'' => e = .returned v ∧ Mem G w0 L R w'' := h.mono fun _ _ ⟨he, hb⟩ => ⟨he, hb ▸ hM⟩
theorem quiet_unwanted {K : Act → Prop} (hg : Region.wanted o (yielded ops a.tmps) = false) (h : K (a.put o.dst undef)) : if Region.wanted o (yielded ops a.tmps) then o.quiet P a C K else K (a.put o.dst undef) := by
  rw [if_neg (by simp [hg])]
  exact h
end
end
end Go.Bul.Hp
namespace Go.Proofs.YtdnnjgjaffkdfaaDoor.Once
open Go Go.RowKit Go.Bul Go.Bul.Hp
/-- A row of bytes. -/
def brow (v : Value) (xs : List Nat) : OwnR := ⟨5, 1, v, xs.length, vals .u8 xs⟩
section
variable {G : List Nat} {w0 w : World} {L : List Ent} {R : List OwnR} {ops : Array Oper} {rest : List Oper} {o : Oper} {a : Act} {Q : Exit → Act → World → Prop}
theorem mem_of_updR {r : OwnR} {R : List OwnR} {F : OwnR → List OwnR} (h : UpdR r R F) : r ∈ R := by obtain ⟨A, B, rfl, _⟩ := h; simp
theorem brow_own {v : Value} {xs : List Nat} (hM : Mem G w0 L R w) (h : brow v xs ∈ R) : OwnB w w0.heap.size v xs := hM.rows _ h
theorem brow_rd {A : Option Addr} {n c : Nat} {xs : List Nat} (hM : Mem G w0 L R w) (h : brow (.slice A n c) xs ∈ R) (hb : Bytes xs) : Rd w (fun _ => True) A n xs ∧ n ≤ c ∧ n = xs.length := by
  have h0 := brow_own hM h
  obtain ⟨A', c', he, _⟩ := own_form h0
  have hn : n = xs.length := by injection he
  obtain ⟨h1, h2⟩ := h0.rd hn hb
  exact ⟨h1.imp fun _ _ _ => trivial, h2, hn⟩
/-- A block of bytes, or a part of it, read as a slice. -/
theorem ent_rd {g n : Nat} {t : TypeId} {xs : List Nat} (hM : Mem G w0 L R w) (h : ⟨g, t, n, cellsOf .u8 xs⟩ ∈ L) (hb : Bytes xs) (off m : Nat) (hm : off + m ≤ n) : Rd w (fun _ => True) (some ⟨g, off, none⟩) m ((xs.drop off).take m) := by
  have hs := hM.size h
  have hB := hM.blk h
  simp only [cellsOf_size] at hs
  refine ⟨by rw [List.length_take, List.length_drop]; omega, (hb.drop _).take _, fun _ => ⟨_, rfl, trivial, hB.lt, fun j hj => ?_⟩⟩
  rw [addr_at]
  have h1 := hB.num (k := .u8) (l := xs) (i := off + j) (by omega)
  simp only at h1
  rw [h1]
  simp [List.getD, hj]
theorem ent_rd_whole {g n : Nat} {t : TypeId} {xs : List Nat} (hM : Mem G w0 L R w) (h : ⟨g, t, n, cellsOf .u8 xs⟩ ∈ L) (hb : Bytes xs) : Rd w (fun _ => True) (some ⟨g, 0, none⟩) n xs := by
  have hs := hM.size h
  simp only [cellsOf_size] at hs
  have := ent_rd hM h hb 0 n (by omega)
  rwa [List.drop_zero, List.take_of_length_le (by omega)] at this
/-- append bytes onto a row of bytes. -/
theorem wpList_mem_bytes (hM : Mem G w0 L R w) (hgd : o.guard = none) (s x : Operand) (t : TypeId) (ho : o.op = .call { callee := .builtin .append, args := #[s, x], argTypes := #[t, t] }) (ht : Tryd.prog.underlying t = some (.slice 5))
    (v : Value) (hs : a.eval s = v) (xs : List Nat) (F : OwnR → List OwnR) (hR : UpdR (brow v xs) R F) (A : Option Addr) (m c : Nat) (hx : a.eval x = .slice A m c) (ok : Nat → Prop) (ys : List Nat) (hr : Rd w ok A m ys) (h63 : xs.length + ys.length ≤ 140737488355328)
    (h : ∀ A' N c' w', Hid (N = (xs ++ ys).length) → Mem G w0 L (F (brow (.slice A' N c') (xs ++ ys))) w' → wpList Tryd.prog ops Q rest (a.put o.dst (.slice A' N c')) w') : wpList Tryd.prog ops Q (o :: rest) a w := by
  refine wpList_append_bytes hgd s x t ho ht w0.heap.size v xs hs (brow_own hM (mem_of_updR hR)) ok A m c ys hx hr (xs ++ ys) rfl _ rfl (by rw [List.length_append]; exact h63) hM.le ?_
  intro A' c' w' h1 h2 h3 h4
  exact h A' _ c' w' (Lib.hid rfl) (hM.rowPut hR h3 h1 h4)
end
end Go.Proofs.YtdnnjgjaffkdfaaDoor.Once
