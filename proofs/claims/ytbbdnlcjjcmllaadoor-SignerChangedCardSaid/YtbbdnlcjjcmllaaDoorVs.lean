/- Contracts of siblings, Path. Contracts of Path, the reference's Path, same. -/
import Derived.Test.YtbbdnlcjjcmllaaDoorVr
namespace Go.Lin
open Go
def sib (k : Nat) : Nat := if k % 2 = 0 then k + 1 else k - 1
def sibsF (leaves : List Nd) (idx n : Nat) : List Nd := (List.range n).map fun k => nodeN leaves k (sib (idx / 2 ^ k))
theorem sibsF_succ (leaves : List Nd) (idx n : Nat) : sibsF leaves idx (n + 1) = sibsF leaves idx n ++ [nodeN leaves n (sib (idx / 2 ^ n))] := by simp [sibsF, List.range_succ]
theorem sibsF_length (leaves : List Nd) (idx n : Nat) : (sibsF leaves idx n).length = n := by simp [sibsF]
theorem div_lt {idx h k : Nat} (hi : idx < 2 ^ h) (hk : k ≤ h) : idx / 2 ^ k < 2 ^ (h - k) := by
  rw [Nat.div_lt_iff_lt_mul (Nat.pow_pos (by decide)), ← Nat.pow_add, show h - k + k = h by omega]
  exact hi
theorem sib_lt {idx h k : Nat} (hi : idx < 2 ^ h) (hk : k < h) : sib (idx / 2 ^ k) < 2 ^ (h - k) := by
  have h1 := div_lt hi (Nat.le_of_lt hk)
  have h2 : 2 ^ (h - k) = 2 * 2 ^ (h - k - 1) := by rw [← Nat.pow_succ']; congr 1; omega
  unfold sib
  generalize idx / 2 ^ k = q at *
  generalize 2 ^ (h - k - 1) = m at *
  split <;> omega
theorem sib_node {leaves : List Nd} {idx h k : Nat} (hn : leaves.length = 2 ^ h) (hi : idx < 2 ^ h) (hk : k < h) : (sib (idx / 2 ^ k) + 1) * 2 ^ k ≤ leaves.length := by
  have h1 := sib_lt hi hk
  have h2 : (sib (idx / 2 ^ k) + 1) * 2 ^ k ≤ 2 ^ (h - k) * 2 ^ k := Nat.mul_le_mul_right _ h1
  rw [← Nat.pow_add, show h - k + k = h by omega] at h2
  omega
theorem bits_xor1 : ∀ x : Fin 1024, bits BinOp.xor IntKind.i64 (x.val : Int) 1 = ((sib x.val : Nat) : Int) := by decide +kernel
end Go.Lin
namespace Go.Proofs.YtbbdnlcjjcmllaaDoor
open Go Go.RowKit Go.Bul Go.Thg Go.Lin
/-- The rows of a tree. -/
structure TreeIn (w : World) (B : Option Addr) (d h : Nat) (leaves : List Nd) : Prop where
  cap : h + 1 ≤ d
  ex : ∃ gt ot, B = some ⟨gt, ot, none⟩ ∧ gt < w.heap.size ∧ ∀ k, k ≤ h → ∃ C e, w.cell? ⟨gt, ot + k, none⟩ = some (.slice C (lvl leaves k).length e) ∧ NIn w C (lvl leaves k).length (lvl leaves k)
theorem TreeIn.keep {w w' : World} {B : Option Addr} {d h : Nat} {leaves : List Nd} (ht : TreeIn w B d h leaves) (hb : Below w.heap.size w w') : TreeIn w' B d h leaves := by
  obtain ⟨hc, gt, ot, h1, h2, h3⟩ := ht
  refine ⟨hc, gt, ot, h1, Nat.lt_of_lt_of_le h2 hb.size, fun k hk => ?_⟩
  obtain ⟨C, e, h4, h5⟩ := h3 k hk
  exact ⟨C, e, (hb.cell (p := ⟨gt, ot + k, none⟩) h2).trans h4, h5.keep hb⟩
theorem tree_in {w0 w : World} {B C : Option Addr} {d h e : Nat} {vs : List Value} {leaves : List Nd} (hM : Mem [] w0 [] (slT (.slice B (h + 1) d) (vs ++ [.slice C 1 e]) :: ndT (.slice C 1 e) (lvl leaves h) :: ndRows vs (lvls leaves h)) w) (hv : vs.length = h) (h1 : (lvl leaves h).length = 1) : TreeIn w B d h leaves := by
  have hP : OffRow w 69 1 (.slice B (h + 1) d) (vs ++ [Value.slice C 1 e]).length (vs ++ [Value.slice C 1 e]) := hM.thing (slT (.slice B (h + 1) d) (vs ++ [Value.slice C 1 e])) (List.Mem.head _)
  have hlen : (vs ++ [Value.slice C 1 e]).length = h + 1 := by simp [hv]
  obtain ⟨A', c', he, hle, _⟩ := OffRow.form hP
  have e2 : d = c' := by injection he
  rw [hlen] at hle hP
  obtain ⟨gt, ot, rfl, hlt, hc, _⟩ := OffRow.cells hP (by omega)
  refine ⟨by omega, gt, ot, rfl, hlt, fun k hk => ?_⟩
  have hk2 : k < (vs ++ [Value.slice C 1 e]).length := by omega
  have hcell := hc k _ (List.getElem?_eq_getElem hk2)
  rcases Nat.lt_or_ge k h with hkh | hkh
  · have hkv : k < vs.length := by omega
    rw [List.getElem_append_left hkv] at hcell
    have hth := hM.thing _ (List.Mem.tail _ (List.Mem.tail _ (ndRows_mem (vs := vs) (lv := lvls leaves h) (by rw [lvls_length]; exact hv) k (by rw [lvls_length]; exact hkh))))
    have hll : (lvls leaves h)[k]'(by rw [lvls_length]; exact hkh) = lvl leaves k := by simp [lvls]
    rw [hll] at hth
    obtain ⟨A2, c2, hv2, _, hn⟩ := ndT_form hth
    rw [hv2] at hcell
    exact ⟨A2, c2, hcell, hn⟩
  · obtain rfl : k = h := by omega
    have hlast : (vs ++ [Value.slice C 1 e])[k]'hk2 = Value.slice C 1 e := by
      rw [List.getElem_append_right (by omega)]
      simp
    rw [hlast] at hcell
    have hni := ndT_in (hM.thing (ndT (.slice C 1 e) (lvl leaves k)) (List.Mem.tail _ (List.Mem.head _)))
    rw [h1]
    exact ⟨C, e, hcell, hni⟩
theorem size_sl : (Tryd.prog.info? 69).map (·.size) = some 1 := by kernel_rfl
set_option maxRecDepth 20000 in
set_option maxHeartbeats 4000000 in
theorem siblings_any (B : Option Addr) (d h : Nat) (leaves : List Nd) (idx : Nat) (w : World) (ht : TreeIn w B d h leaves) (hn : leaves.length = 2 ^ h) (hh : h ≤ 10) (hi : idx < 2 ^ h) :
    Calls Tryd.prog 67 #[.slice B (h + 1) d, .int .i64 (idx : Nat)] w fun e w' => ∃ A' c', e = .returned (.slice A' h c') ∧ Becomes [] w (ndT (.slice A' h c') (sibsF leaves idx h)) w' := by
  have hM := Mem.start [] w
  obtain ⟨hc, gt, ot, rfl, hgt, hT⟩ := id ht
  have hd : advA (some ⟨gt, ot, none⟩) 0 d 1 = some ⟨gt, ot, none⟩ := by
    unfold advA
    rw [if_neg (by omega)]
    simp [addr_at]
  have w5 : IntKind.i64.wrap ((h : Int) + 1 - 1) = (h : Int) := by rw [show (h : Int) + 1 - 1 = (h : Int) by omega]; exact IntWalk.i64_in (h : Int) ⟨by omega, by omega⟩
  have HD := Lib.hid hd
  have HC := Lib.hid hc
  have HT := Lib.hid (fun w' (hb : Below w.heap.size w w') => (ht.keep hb).ex)
  have HN := Lib.hid hn
  have HI := Lib.hid hi
  have HX : Hid (idx / 2 ^ 0 = idx) := Lib.hid (by simp)
  have hidx : idx < 1024 := by
    have : 2 ^ h ≤ 2 ^ 10 := Nat.pow_le_pow_right (by decide) hh
    omega
  have HIX := Lib.hid hidx
  clear ht hd hc hT hn hi hidx hgt
  go_enter Tryd.func67, Tryd.ntmps67
  go_wp2_with (first | (refine lsl_hi (k := h) Tryd.underlying124 size_sl (by have := HC.out; omega) HD.out ?_) | ((first | with_reducible refine at_load ?_ | ((with_reducible refine at_load_g ?_ ?_); (· rfl))); first | refine ll hM ?_ | refine lc hM ?_ | refine lp hM ?_) | ((with_reducible refine at_store ?_); first | (refine lw hM ?_; clear hM; intro wx hM) | (refine ls hM ?_; clear hM; intro wx hM) | (refine lt hM ?_; clear hM; intro wx hM)) | ((with_reducible refine at_alloc ?_); refine lz hM ?_; clear hM; intro gx wx hM) | ((with_reducible refine at_box ?_); refine lb hM ?_; clear hM; intro gx wx hM))
  have M0 := Lib.hid (hM.newThing (nbecomes_zero none (KeptBut.refl _ _)))
  clear hM
  go_loopw [14, 5, 1] (fun i p x wr => ∃ (k : Nat) (E : Option Addr) (e2 : Nat), k ≤ h ∧ i = .int .i64 (k : Nat) ∧ x = .int .i64 ((idx / 2 ^ k : Nat) : Int) ∧ p = .slice E (sibsF leaves idx k).length e2 ∧ Mem [] w [] [ndT (.slice E (sibsF leaves idx k).length e2) (sibsF leaves idx k)] wr) (fun i _ _ _ => h - (intOf i).toNat)
  case atStart => exact ⟨0, none, 0, by omega, rfl, by rw [HX.out], rfl, M0.out⟩
  case round =>
    clear M0
    obtain ⟨k, E, e2, hk, rfl, rfl, rfl, hM⟩ := hrel
    by_cases hlt : k < h
    · obtain ⟨gt', ot', he, _, h3⟩ := HT.out _ hM.below
      injection he with he
      injection he with e1 e3
      subst e1 e3
      obtain ⟨C, e, hcell, hni⟩ := h3 k hk
      have hs1 := sib_lt HI.out hlt
      have hnode := lvl_get leaves k _ (sib_node HN.out HI.out hlt)
      have hll : (lvl leaves k).length = 2 ^ (h - k) := by rw [lvl_length, HN.out]; exact Nat.pow_div hk (by decide)
      rw [← hll] at hs1
      obtain ⟨gl, ol, rfl, _, h5⟩ := hni.row _ hs1
      have hrow := NIn.cell hni _ hs1
      have hx : (lvl leaves k)[sib (idx / 2 ^ k)] = nodeN leaves k (sib (idx / 2 ^ k)) := by
        rw [List.getElem?_eq_getElem hs1] at hnode
        exact Option.some.inj hnode
      rw [hx] at hrow
      have hsucc := sibsF_succ leaves idx k
      have hdiv : idx / 2 ^ (k + 1) = idx / 2 ^ k / 2 := by rw [Nat.pow_succ, Nat.div_div_eq_div_mul]
      have hcl := sibsF_length leaves idx k
      have hq : idx / 2 ^ k < 1024 := Nat.lt_of_le_of_lt (Nat.div_le_self _ _) HIX.out
      have hxor := bits_xor1 ⟨idx / 2 ^ k, hq⟩
      simp only at hxor
      clear hnode h5 hx hni h3 hll
      obtain ⟨m, hm⟩ : ∃ m, (lvl leaves k).length = m := ⟨_, rfl⟩
      rw [hm] at hs1 hcell
      generalize nodeN leaves k (sib (idx / 2 ^ k)) = Z at hrow hsucc
      generalize idx / 2 ^ k = q at *
      generalize sib q = s at *
      obtain ⟨cur, hcur⟩ : ∃ c, sibsF leaves idx k = c := ⟨_, rfl⟩
      rw [hcur] at hsucc hM hcl ⊢
      have HSUCC := Lib.hid hsucc
      have HDIV := Lib.hid hdiv
      have HROW := Lib.hid hrow
      have HCELL := Lib.hid hcell
      have h63 : cur.length + [Z].length ≤ 1000000000 := by simp; omega
      have q0 : (0 : Int) ≤ (k : Int) := Int.natCast_nonneg _
      have q1 : (k : Int) < (h : Int) := by omega
      have q2 : (0 : Int) ≤ (s : Int) := Int.natCast_nonneg _
      have q3 : (s : Int) < (m : Int) := by omega
      clear hs1 hm hsucc hdiv hcl hrow hcell hcur hq
      go_wp2_with (first | ((with_reducible refine at_load ?_); first | refine lo HCELL.out ?_ | refine lr HROW.out ?_) | (refine lbn1 hM ?_; clear hM; intro g1 w5 hM) | ((with_reducible refine at_append ?_); refine lan (src_nd1 hM (List.Mem.head _)) hM h63 ?_; clear hM; intro A2 N2 c2 wx hN2 hM))
      obtain rfl : N2 = (cur ++ [Z]).length := hN2.out
      exact ⟨⟨k + 1, A2, c2, by omega, by go_num, by rw [HDIV.out]; first | rfl | simp, by rw [HSUCC.out], by rw [HSUCC.out]; exact hM.subL (List.sublist_cons_self _ _)⟩, by simp [intOf]; omega⟩
    · obtain rfl : k = h := by omega
      rw [sibsF_length] at hM ⊢
      clear hlt hk
      go_wp2_with fail
      go_ret
      exact ⟨E, e2, rfl, hM.becomes (by exact List.Mem.head _)⟩
end Go.Proofs.YtbbdnlcjjcmllaaDoor
namespace Go.Lin
open Go
def pathF (leaves : List Nd) (idx : Int) : List Nd × Int :=
  if chkE leaves.length ≠ 0 then ([], chkE leaves.length) else if idx < 0 ∨ (leaves.length : Int) ≤ idx then ([], 8) else (sibsF leaves idx.toNat (Nat.log2 leaves.length), 0)
end Go.Lin
namespace Go.Proofs.YtbbdnlcjjcmllaaDoor
open Go Go.RowKit Go.Bul Go.Thg Go.Lin
set_option maxRecDepth 20000 in
set_option maxHeartbeats 4000000 in
theorem path_any (A : Option Addr) (n c : Nat) (leaves : List Nd) (idx : Int) (w : World) (hr : NIn w A n leaves) (hn : n ≤ 2000) (hT : Tab w) :
    Calls Tryd.prog 48 #[.slice A n c, .int .i64 idx] w fun e w' => ∃ A' c', e = .returned (.tuple #[.slice A' (pathF leaves idx).1.length c', .int .i64 (pathF leaves idx).2]) ∧ Becomes [] w (ndT (.slice A' (pathF leaves idx).1.length c') (pathF leaves idx).1) w' := by
  have hl := hr.len
  unfold pathF
  rw [← hl]
  have HC := Lib.hid (fun w => check_any A n c w (by omega))
  by_cases hc : chkE n = 0
  · obtain ⟨h, hh, he, hlog⟩ := chkE_yes hc
    rw [if_neg (by rw [hc]; decide), hlog]
    rw [hc] at HC
    by_cases h0 : idx < 0
    · rw [if_pos (.inl h0)]
      have hM := Mem.start [] w
      have q1 : decide (idx < 0) = true := decide_eq_true h0
      clear h0 hr hl hT hc he hlog hh
      go_enter Tryd.func48, Tryd.ntmps48
      go_wp2_with (first | ((with_reducible refine (HC.out _).mono ?_); rintro e w1 ⟨rfl, rfl⟩) | ((first | with_reducible refine at_load ?_ | ((with_reducible refine at_load_g ?_ ?_); (· rfl))); first | refine ll hM ?_ | refine lc hM ?_ | refine lp hM ?_) | ((with_reducible refine at_store ?_); first | (refine lw hM ?_; clear hM; intro wx hM) | (refine ls hM ?_; clear hM; intro wx hM) | (refine lt hM ?_; clear hM; intro wx hM)) | ((with_reducible refine at_alloc ?_); refine lz hM ?_; clear hM; intro gx wx hM) | ((with_reducible refine at_box ?_); refine lb hM ?_; clear hM; intro gx wx hM))
      go_ret2
      exact ⟨none, 0, rfl, nbecomes_zero none (KeptBut.refl _ _)⟩
    · have q1 : decide (idx < 0) = false := decide_eq_false h0
      by_cases h1 : (n : Int) ≤ idx
      · rw [if_pos (.inr h1)]
        have hM := Mem.start [] w
        have q2 : decide ((n : Int) ≤ idx) = true := decide_eq_true h1
        clear h0 h1 hr hl hT hc he hlog hh
        go_enter Tryd.func48, Tryd.ntmps48
        go_wp2_with (first | ((with_reducible refine (HC.out _).mono ?_); rintro e w1 ⟨rfl, rfl⟩) | ((first | with_reducible refine at_load ?_ | ((with_reducible refine at_load_g ?_ ?_); (· rfl))); first | refine ll hM ?_ | refine lc hM ?_ | refine lp hM ?_) | ((with_reducible refine at_store ?_); first | (refine lw hM ?_; clear hM; intro wx hM) | (refine ls hM ?_; clear hM; intro wx hM) | (refine lt hM ?_; clear hM; intro wx hM)) | ((with_reducible refine at_alloc ?_); refine lz hM ?_; clear hM; intro gx wx hM) | ((with_reducible refine at_box ?_); refine lb hM ?_; clear hM; intro gx wx hM))
        go_ret2
        exact ⟨none, 0, rfl, nbecomes_zero none (KeptBut.refl _ _)⟩
      · rw [if_neg (by omega)]
        have q2 : decide ((n : Int) ≤ idx) = false := decide_eq_false h1
        obtain ⟨k, rfl⟩ : ∃ k : Nat, idx = (k : Int) := ⟨idx.toNat, by omega⟩
        have hk : k < 2 ^ h := by omega
        have q3 : decide (n ≤ k) = false := decide_eq_false (by omega)
        simp only [Int.toNat_natCast]
        have hln : leaves.length = 2 ^ h := by omega
        have hM := Mem.start [] w
        have hl1 : (lvl leaves h).length = 1 := by rw [lvl_length, hln]; exact Nat.div_self (Nat.pow_pos (by decide))
        have HG := Lib.hid (fun w' (hb : Below w.heap.size w w') => grow_any A n c h leaves w' (hr.keep hb) hln hh (hT.keep hb))
        have HS := Lib.hid (fun B d w' (ht : TreeIn w' B d h leaves) => siblings_any B d h leaves k w' ht hln hh hk)
        have hsl := sibsF_length leaves k h
        generalize sibsF leaves k h = Z at HS hsl ⊢
        rw [hsl]
        have HL1 := Lib.hid hl1
        clear h0 h1 hr hl hT hc he hlog hh hk hln hl1
        go_enter Tryd.func48, Tryd.ntmps48
        go_wp2_with (first | ((with_reducible refine (HC.out _).mono ?_); rintro e w1 ⟨rfl, rfl⟩) | ((with_reducible refine (HG.out _ hM.below).mono ?_); rintro e w1 ⟨B, d, vs, C, e', rfl, hvl, hG⟩; have HTI := Lib.hid (tree_in hG hvl HL1.out); replace hM := hM.frame hG; clear hG) | ((with_reducible refine (HS.out _ _ _ HTI.out).mono ?_); rintro e w2 ⟨A', c', rfl, hb⟩; replace hM := hM.newThing hb; clear hb) | ((first | with_reducible refine at_load ?_ | ((with_reducible refine at_load_g ?_ ?_); (· rfl))); first | refine ll hM ?_ | refine lc hM ?_ | refine lp hM ?_) | ((with_reducible refine at_store ?_); first | (refine lw hM ?_; clear hM; intro wx hM) | (refine ls hM ?_; clear hM; intro wx hM) | (refine lt hM ?_; clear hM; intro wx hM)) | ((with_reducible refine at_alloc ?_); refine lz hM ?_; clear hM; intro gx wx hM) | ((with_reducible refine at_box ?_); refine lb hM ?_; clear hM; intro gx wx hM))
        go_ret2
        exact ⟨A', c', rfl, hM.becomes (by exact List.Mem.head _)⟩
  · rw [if_pos hc]
    have hM := Mem.start [] w
    have q1 : (chkE n != 0) = true := by simpa using hc
    generalize chkE n = ce at q1 HC ⊢
    clear hc hr hl hT
    go_enter Tryd.func48, Tryd.ntmps48
    go_wp2_with (first | ((with_reducible refine (HC.out _).mono ?_); rintro e w1 ⟨rfl, rfl⟩) | ((first | with_reducible refine at_load ?_ | ((with_reducible refine at_load_g ?_ ?_); (· rfl))); first | refine ll hM ?_ | refine lc hM ?_ | refine lp hM ?_) | ((with_reducible refine at_store ?_); first | (refine lw hM ?_; clear hM; intro wx hM) | (refine ls hM ?_; clear hM; intro wx hM) | (refine lt hM ?_; clear hM; intro wx hM)) | ((with_reducible refine at_alloc ?_); refine lz hM ?_; clear hM; intro gx wx hM) | ((with_reducible refine at_box ?_); refine lb hM ?_; clear hM; intro gx wx hM))
    go_ret2
    exact ⟨none, 0, rfl, nbecomes_zero none (KeptBut.refl _ _)⟩
end Go.Proofs.YtbbdnlcjjcmllaaDoor
