/- MerkleLimits: the walk. MerkleLimits' arguments. -/
import Derived.Test.YtcfojkecmchbdaaDoorMnu
namespace Go.Lin
open Go
def repN (x : Nd) : Nat → Nd
  | 0 => x
  | k + 1 => joinN ((k + 1 : Nat) : Int) (repN x k) (repN x k)
theorem rep_node (x : Nd) (n : Nat) : ∀ k j : Nat, (j + 1) * 2 ^ k ≤ n → nodeN (List.replicate n x) k j = repN x k
  | 0, j, h => by
    have hj : j < n := by simp at h; omega
    simp [nodeN, repN, List.getD_eq_getElem?_getD, hj]
  | k + 1, j, h => by
    rw [Nat.pow_succ] at h
    have e : (j + 1) * (2 ^ k * 2) = (2 * j + 1 + 1) * 2 ^ k := by
      rw [Nat.mul_comm (2 ^ k) 2, ← Nat.mul_assoc]; congr 1; omega
    have e2 : (2 * j + 1) * 2 ^ k ≤ (2 * j + 1 + 1) * 2 ^ k := Nat.mul_le_mul_right _ (by omega)
    show joinN _ (nodeN _ k (2 * j)) (nodeN _ k (2 * j + 1)) = _
    rw [rep_node x n k (2 * j) (by omega), rep_node x n k (2 * j + 1) (by omega)]
    rfl
theorem chk_full : chkE 1024 = 0 ∧ Nat.log2 1024 = 10 := chkE_pow (h := 10) (by decide) (by decide)
theorem root_rep (x : Nd) : rootN (List.replicate 1024 x) = repN x 10 := by
  have h := chk_full
  unfold rootN
  rw [List.length_replicate, if_pos h.1, h.2, ← rootH_node _ 10 (by rw [List.length_replicate]), rep_node x 1024 10 0 (by decide)]
theorem rep_join (x : Nd) (k : Nat) (h : 1 ≤ k) : joinN (k : Int) (repN x (k - 1)) (repN x (k - 1)) = repN x k := by
  obtain ⟨j, rfl⟩ : ∃ j, k = j + 1 := ⟨k - 1, by omega⟩
  rfl
end Go.Lin
namespace Go.Proofs.YtcfojkecmchbdaaDoor
open Go Go.RowKit Go.Bul Go.Thg Go.Lin
theorem add_rep {w0 w : World} {L : List Ent} {R : List Thing} {g : Nat} (k : Nat) (ns : List Nd) (x : Nd) (hM : Mem [] w0 (⟨g, 72, 177, bldC ns (k : Nat)⟩ :: L) R w) (hB : BInv (List.replicate k x) ns) (hk : k < 1024) (hT : Tab w0) :
    Calls Tryd.prog 33 #[.pointer (some ⟨g, 0, none⟩), .agg (ndC x)] w fun e w' => ∃ ns', BInv (List.replicate (k + 1) x) ns' ∧ e = .returned (.int .i64 0) ∧ Mem [] w0 (⟨g, 72, 177, bldC ns' ((k + 1 : Nat) : Int)⟩ :: L) R w' := by
  have h := add_any (List.replicate k x) ns x (by rw [List.length_replicate]; exact hM) hB (by rw [List.length_replicate]; exact hk) hT
  rw [← List.replicate_succ', List.length_replicate] at h
  exact h
set_option maxRecDepth 20000 in
set_option maxHeartbeats 8000000 in
theorem mlimits_any (x : Nd) (m : Nat) (w : World) (hm : m < 256) (hT : Tab w) (hD : Dbj w) :
    Calls Tryd.prog 10 #[.agg (ndC x), .int .u8 (m : Nat)] w fun e w' => e = .returned (.bool true) ∧ Below w.heap.size w w' := by
  have hM := Mem.start [] w
  have HK := Lib.hid (fun w' (hb : Below w.heap.size w w') => known_any w' (hT.keep hb))
  have HT := Lib.hid hT
  have HTK := Lib.hid (fun w' (hb : Below w.heap.size w w') => hT.keep hb)
  have HDK := Lib.hid (fun w' (hb : Below w.heap.size w w') => hD.keep hb)
  have HM := Lib.hid hm
  clear hT hD hm
  go_enter Tryd.func10, Tryd.ntmps10
  go_wp2_with (first | ((with_reducible refine (HK.out _ hM.below).mono ?_); rintro e w1 ⟨rfl, hb⟩; replace hM := hM.step hb; clear hb) | ((with_reducible refine (root_nil _).mono ?_); rintro e w1 ⟨rfl, hb⟩; replace hM := hM.step hb; clear hb) | ((with_reducible refine (add_nil x _).mono ?_); rintro e w1 ⟨rfl, hb⟩; replace hM := hM.step hb; clear hb) | ((with_reducible refine (len_nil _).mono ?_); rintro e w1 ⟨rfl, rfl⟩) | ((with_reducible refine (pend_nil _).mono ?_); rintro e w1 ⟨rfl, rfl⟩) | ((with_reducible refine (new_bld hM).mono ?_); clear hM; rintro e w1 ⟨g8, rfl, hM⟩) | ((first | with_reducible refine at_load ?_ | ((with_reducible refine at_load_g ?_ ?_); (· rfl))); first | refine ll hM ?_ | refine lc hM ?_ | refine lp hM ?_) | ((with_reducible refine at_store ?_); first | (refine lw hM ?_; clear hM; intro wx hM) | (refine ls hM ?_; clear hM; intro wx hM) | (refine lt hM ?_; clear hM; intro wx hM)) | ((with_reducible refine at_alloc ?_); refine lz hM ?_; clear hM; intro gx wx hM) | ((with_reducible refine at_box ?_); refine lb hM ?_; clear hM; intro gx wx hM))
  obtain ⟨g8, hg8⟩ := hM.name1
  obtain ⟨g6, hg6⟩ := (hM.subL (List.sublist_cons_self _ _)).name1
  obtain ⟨g2, hg2⟩ := (hM.subL (L' := [_]) (List.Sublist.cons _ (List.sublist_cons_self _ _))).name1
  subst hg8 hg6 hg2
  replace hM := hM.newThing (nbecomes_zero none (KeptBut.refl _ _))
  have M0 := Lib.hid hM
  clear hM
  go_loopw [10, 9] (fun i p wr => ∃ (k : Nat) (ns cur : List Nd) (E : Option Addr) (e2 : Nat), k ≤ 1024 ∧ cur = List.replicate k x ∧ i = .int .i64 (k : Nat) ∧ p = .slice E k e2 ∧ BInv cur ns ∧ Mem [] w [⟨g8, 72, 177, bldC ns (k : Nat)⟩, ⟨g6, 27, 16, ndC nd0⟩, ⟨g2, 24, 16, ndC x⟩] [ndT (.slice E k e2) cur] wr) (fun i _ _ => 1024 - (intOf i).toNat)
  case atStart => exact ⟨0, _, [], none, 0, by omega, rfl, rfl, rfl, BInv.nil, M0.out⟩
  case round =>
    clear M0
    obtain ⟨k, ns, cur, E, e2, hk, hcur, rfl, rfl, hB, hM⟩ := hrel
    have hcl : cur.length = k := by rw [hcur, List.length_replicate]
    by_cases hlt : k < 1024
    · have hsucc : cur ++ [x] = List.replicate (k + 1) x := by rw [hcur, List.replicate_succ']
      have h63 : cur.length + [x].length ≤ 1000000000 := by simp; omega
      have k0 : (0 : Int) ≤ (k : Int) := Int.natCast_nonneg _
      have k1 : (k : Int) < 1024 := by omega
      have HADD := Lib.hid (fun L R w' (h : Mem [] w (⟨g8, 72, 177, bldC ns (k : Nat)⟩ :: L) R w') => add_rep k ns x h (by rw [← hcur]; exact hB) hlt HT.out)
      rw [← hsucc] at HADD
      have HSU := Lib.hid hsucc
      have HCL := Lib.hid hcl
      clear hcur hsucc hcl hB hlt hk
      go_upto_region 13 with (first | (refine lbn1 hM ?_; clear hM; intro g1 w5 hM) | ((with_reducible refine at_append ?_); refine lan (src_nd1 hM (List.Mem.head _)) hM h63 ?_; clear hM; intro A2 N2 c2 wx hN2 hM) | ((first | with_reducible refine at_load ?_ | ((with_reducible refine at_load_g ?_ ?_); (· rfl))); first | refine ll hM ?_ | refine lc hM ?_ | refine lp hM ?_) | ((with_reducible refine at_store ?_); first | (refine lw hM ?_; clear hM; intro wx hM) | (refine ls hM ?_; clear hM; intro wx hM) | (refine lt hM ?_; clear hM; intro wx hM)) | ((with_reducible refine at_alloc ?_); refine lz hM ?_; clear hM; intro gx wx hM) | ((with_reducible refine at_box ?_); refine lb hM ?_; clear hM; intro gx wx hM))
      replace hM := hM.subL (List.sublist_cons_self _ _)
      go_wp2_with (first | ((with_reducible refine (HADD.out _ _ _ hM).mono ?_); clear hM; rintro e w1 ⟨ns', hB, rfl, hM⟩; have HBB := Lib.hid hB; clear hB) | ((first | with_reducible refine at_load ?_ | ((with_reducible refine at_load_g ?_ ?_); (· rfl))); first | refine ll hM ?_ | refine lc hM ?_ | refine lp hM ?_) | ((with_reducible refine at_store ?_); first | (refine lw hM ?_; clear hM; intro wx hM) | (refine ls hM ?_; clear hM; intro wx hM) | (refine lt hM ?_; clear hM; intro wx hM)) | ((with_reducible refine at_alloc ?_); refine lz hM ?_; clear hM; intro gx wx hM) | ((with_reducible refine at_box ?_); refine lb hM ?_; clear hM; intro gx wx hM))
      obtain rfl : N2 = (cur ++ [x]).length := hN2.out
      have hl2 : (cur ++ [x]).length = k + 1 := by have := HCL.out; simp; omega
      rw [hl2] at hM ⊢
      exact ⟨⟨k + 1, ns', cur ++ [x], A2, c2, by omega, HSU.out, by go_num, rfl, HBB.out, hM⟩, by simp [intOf]; omega⟩
    · have hk4 : k = 1024 := by omega
      have k1 : ((k : Int) < 1024) = False := by simp; omega
      have HK4 := Lib.hid hk4
      have HCUR := Lib.hid hcur
      have HCL := Lib.hid hcl
      have HBB := Lib.hid hB
      clear hk4 hcur hcl hB hlt hk
      go_wp2_with (first | ((first | with_reducible refine at_load ?_ | ((with_reducible refine at_load_g ?_ ?_); (· rfl))); first | refine ll hM ?_ | refine lc hM ?_ | refine lp hM ?_) | ((with_reducible refine at_store ?_); first | (refine lw hM ?_; clear hM; intro wx hM) | (refine ls hM ?_; clear hM; intro wx hM) | (refine lt hM ?_; clear hM; intro wx hM)) | ((with_reducible refine at_alloc ?_); refine lz hM ?_; clear hM; intro gx wx hM) | ((with_reducible refine at_box ?_); refine lb hM ?_; clear hM; intro gx wx hM))
      obtain ⟨g11, hg11⟩ := hM.name1
      subst hg11
      have M0 := Lib.hid hM
      clear hM
      go_loopw [12] (fun i wr => ∃ (j : Nat) (y : Nd), 1 ≤ j ∧ j ≤ 11 ∧ y = repN x (j - 1) ∧ i = .int .i64 (j : Nat) ∧ Mem [] w [⟨g11, 27, 16, ndC y⟩, ⟨g8, 72, 177, bldC ns (k : Nat)⟩, ⟨g6, 27, 16, ndC nd0⟩, ⟨g2, 24, 16, ndC x⟩] [ndT (.slice E k e2) cur] wr) (fun i _ => 11 - (intOf i).toNat)
      case atStart => exact ⟨1, x, by omega, by omega, rfl, rfl, M0.out⟩
      case round =>
        clear M0
        obtain ⟨j, y, hj1, hj, hy, rfl, hM⟩ := hrel
        by_cases hlt : j ≤ 10
        · have hz := rep_join x j hj1
          rw [← hy] at hz
          have HJ := Lib.hid (fun w' (h : Below w.heap.size w w') => join_any (j : Int) y y w' (HTK.out w' h))
          generalize joinN (j : Int) y y = Z at hz HJ
          have HZ := Lib.hid hz
          have k0 : (0 : Int) ≤ (j : Int) := Int.natCast_nonneg _
          have k2 : (j : Int) ≤ 10 := by omega
          clear hz hy hj1 hj
          go_wp2_with (first | ((with_reducible refine (HJ.out _ hM.below).mono ?_); rintro e w1 ⟨rfl, hb⟩; replace hM := hM.step hb; clear hb) | ((first | with_reducible refine at_load ?_ | ((with_reducible refine at_load_g ?_ ?_); (· rfl))); first | refine ll hM ?_ | refine lc hM ?_ | refine lp hM ?_) | ((with_reducible refine at_store ?_); first | (refine lw hM ?_; clear hM; intro wx hM) | (refine ls hM ?_; clear hM; intro wx hM) | (refine lt hM ?_; clear hM; intro wx hM)) | ((with_reducible refine at_alloc ?_); refine lz hM ?_; clear hM; intro gx wx hM) | ((with_reducible refine at_box ?_); refine lb hM ?_; clear hM; intro gx wx hM))
          exact ⟨⟨j + 1, Z, by omega, by omega, HZ.out, by go_num, hM⟩, by simp [intOf]; omega⟩
        · obtain rfl : j = 11 := by omega
          clear hlt hj hj1
          have hroot : rootN cur = y := by rw [HCUR.out, HK4.out, root_rep, hy]
          have hck : chkE k = 0 := by rw [HK4.out]; exact chk_full.1
          have HRT := Lib.hid (fun w' (h : NIn w' E k cur) (hb : Below w.heap.size w w') => root_any E k e2 cur w' h (by have := HK4.out; omega) (HTK.out w' hb))
          have HRB := Lib.hid (fun w' (h1 : BldIn w' g8 ns cur.length) (hb : Below w.heap.size w w') => root_bld g8 cur ns w' h1 HBB.out (by have := HK4.out; have := HCL.out; omega) (fun w'' h => (HDK.out w' hb).keep h))
          rw [hroot, hck] at HRT
          rw [hroot, HCL.out, if_pos hck] at HRB
          clear hroot hck hy
          have k3 : (0 : Int) ≤ (k : Int) := Int.natCast_nonneg _
          go_wp2_with (first | ((with_reducible refine (HRT.out _ (ndT_in (hM.thing _ (List.Mem.head _))) hM.below).mono ?_); rintro e w1 ⟨rfl, hb⟩; replace hM := hM.step hb; clear hb) | ((with_reducible refine (HRB.out _ (bld_in hM (List.Mem.tail _ (List.Mem.tail _ (List.Mem.head _)))) hM.below).mono ?_); rintro e w1 ⟨rfl, hb⟩; replace hM := hM.step hb; clear hb) | ((first | with_reducible refine at_load ?_ | ((with_reducible refine at_load_g ?_ ?_); (· rfl))); first | refine ll hM ?_ | refine lc hM ?_ | refine lp hM ?_) | ((with_reducible refine at_store ?_); first | (refine lw hM ?_; clear hM; intro wx hM) | (refine ls hM ?_; clear hM; intro wx hM) | (refine lt hM ?_; clear hM; intro wx hM)) | ((with_reducible refine at_alloc ?_); refine lz hM ?_; clear hM; intro gx wx hM) | ((with_reducible refine at_box ?_); refine lb hM ?_; clear hM; intro gx wx hM))
          obtain ⟨g15, hg15⟩ := hM.name1
          obtain ⟨g13, hg13⟩ := (hM.subL (List.sublist_cons_self _ _)).name1
          subst hg15 hg13
          have M0 := Lib.hid hM
          clear hM
          obtain ⟨q, hq⟩ : ∃ q, m % 3 = q := ⟨_, rfl⟩
          have hq2 : q < 3 := by omega
          have hq3 : (m : Int) % 3 = (q : Int) := by omega
          have HQ2 := Lib.hid hq2
          clear hq hq2
          go_loopw [17, 9] (fun i p wr => ∃ (j N : Nat) (cu : List Nd) (E' : Option Addr) (e' : Nat), j ≤ q + 1 ∧ N = k + j ∧ cu.length = N ∧ i = .int .i64 (j : Nat) ∧ p = .slice E' N e' ∧ Mem [] w [⟨g15, 27, 16, ndC y⟩, ⟨g13, 27, 16, ndC y⟩, ⟨g11, 27, 16, ndC y⟩, ⟨g8, 72, 177, bldC ns (k : Nat)⟩, ⟨g6, 27, 16, ndC nd0⟩, ⟨g2, 24, 16, ndC x⟩] [ndT (.slice E' N e') cu] wr) (fun i _ _ => q + 1 - (intOf i).toNat)
          case atStart => exact ⟨0, k, cur, E, e2, by omega, rfl, HCL.out, rfl, rfl, M0.out⟩
          case round =>
            clear M0
            obtain ⟨j, N, cu, E', e', hj, hN, hcu, rfl, rfl, hM⟩ := hrel
            have k4 : (0 : Int) ≤ (j : Int) := Int.natCast_nonneg _
            have k5 : (q : Int) < 3 := by have := HQ2.out; omega
            have k6 : (0 : Int) ≤ (q : Int) := Int.natCast_nonneg _
            by_cases hlt : j ≤ q
            · have h63 : cu.length + [x].length ≤ 1000000000 := by have := HQ2.out; have := HK4.out; simp; omega
              have k7 : (j : Int) ≤ (q : Int) := by omega
              have d7 : decide ((j : Int) ≤ (q : Int)) = true := decide_eq_true k7
              have d8 : decide (j ≤ q) = true := decide_eq_true hlt
              have HCU := Lib.hid hcu
              have HN := Lib.hid hN
              clear hcu hN hj
              go_wp2_with (first | (refine lbn1 hM ?_; clear hM; intro g1 w5 hM) | ((with_reducible refine at_append ?_); refine lan (src_nd1 hM (List.Mem.head _)) hM h63 ?_; clear hM; intro A2 N2 c2 wx hN2 hM) | ((first | with_reducible refine at_load ?_ | ((with_reducible refine at_load_g ?_ ?_); (· rfl))); first | refine ll hM ?_ | refine lc hM ?_ | refine lp hM ?_) | ((with_reducible refine at_store ?_); first | (refine lw hM ?_; clear hM; intro wx hM) | (refine ls hM ?_; clear hM; intro wx hM) | (refine lt hM ?_; clear hM; intro wx hM)) | ((with_reducible refine at_alloc ?_); refine lz hM ?_; clear hM; intro gx wx hM) | ((with_reducible refine at_box ?_); refine lb hM ?_; clear hM; intro gx wx hM))
              exact ⟨⟨j + 1, N2, cu ++ [x], A2, c2, by omega, by have := HN.out; have := HCU.out; have := hN2.out; simp at this; omega, by rw [hN2.out], by go_num, rfl, hM.subL (List.sublist_cons_self _ _)⟩, by simp [intOf]; omega⟩
            · have d7 : decide ((j : Int) ≤ (q : Int)) = false := decide_eq_false (by omega)
              have d8 : decide (j ≤ q) = false := decide_eq_false hlt
              have hck : chkE N = 9 := by have := HK4.out; unfold chkE; rw [if_neg (by omega), if_pos (by omega)]
              have HR2 := Lib.hid (fun w' (h : NIn w' E' N cu) (hb : Below w.heap.size w w') => root_any E' N e' cu w' h (by have := HK4.out; have := HQ2.out; omega) (HTK.out w' hb))
              rw [hck] at HR2
              generalize rootN cu = Z2 at HR2
              have HAF := Lib.hid (fun w' (h1 : BldIn w' g8 ns k) => show Calls Tryd.prog 33 #[.pointer (some ⟨g8, 0, none⟩), .agg (ndC x)] w' fun e w'' => e = .returned (.int .i64 9) ∧ Below w'.heap.size w' w'' from add_full g8 ns x w' (by rw [← HK4.out]; exact h1) HBB.out.len)
              have HLB := Lib.hid (fun w' (h1 : BldIn w' g8 ns k) => len_bld g8 k ns w' h1 HBB.out.len)
              have r1 : ((k : Int) == 1024) = true := by simp; have := HK4.out; omega
              have qy := eq_nd y y
              rw [decide_eq_true rfl] at qy
              clear hck hN hcu hj hlt
              go_wp2_with (first | ((with_reducible refine (HR2.out _ (ndT_in (hM.thing _ (List.Mem.head _))) hM.below).mono ?_); rintro e w1 ⟨rfl, hb⟩; replace hM := hM.step hb; clear hb) | ((with_reducible refine (HAF.out _ (bld_in hM (List.Mem.tail _ (List.Mem.tail _ (List.Mem.tail _ (List.Mem.tail _ (List.Mem.head _))))))).mono ?_); rintro e w1 ⟨rfl, hb⟩; replace hM := hM.step hb; clear hb) | ((with_reducible refine (HLB.out _ (bld_in hM (List.Mem.tail _ (List.Mem.tail _ (List.Mem.tail _ (List.Mem.tail _ (List.Mem.head _))))))).mono ?_); rintro e w1 ⟨rfl, rfl⟩) | ((first | with_reducible refine at_load ?_ | ((with_reducible refine at_load_g ?_ ?_); (· rfl))); first | refine ll hM ?_ | refine lc hM ?_ | refine lp hM ?_) | ((with_reducible refine at_store ?_); first | (refine lw hM ?_; clear hM; intro wx hM) | (refine ls hM ?_; clear hM; intro wx hM) | (refine lt hM ?_; clear hM; intro wx hM)) | ((with_reducible refine at_alloc ?_); refine lz hM ?_; clear hM; intro gx wx hM) | ((with_reducible refine at_box ?_); refine lb hM ?_; clear hM; intro gx wx hM))
              go_ret
              exact ⟨rfl, hM.below⟩
end Go.Proofs.YtcfojkecmchbdaaDoor
namespace Go.Proofs.YtcfojkecmchbdaaDoor
open Go Go.RowKit Go.Bul Go.Lin
theorem mlimits_row (bs : List Nat) (m : Nat) (w : World) (hl : bs.length = 16) (hb : Bytes bs) (hm : m < 256) (hT : Tab w) (hD : Dbj w) :
    Calls Tryd.prog 10 #[.agg (cellsOf .u8 bs), .int .u8 (m : Nat)] w fun e w' => e = .returned (.bool true) ∧ Below w.heap.size w w' :=
  mlimits_any ⟨bs, hl, hb⟩ m w hm hT hD
end Go.Proofs.YtcfojkecmchbdaaDoor
