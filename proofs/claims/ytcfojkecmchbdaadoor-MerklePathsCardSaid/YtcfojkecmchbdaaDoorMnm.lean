/- Contracts of the reference's half, Leaf, Join. Contracts of the reference's Leaf, Join. -/
import Derived.Test.YtcfojkecmchbdaaDoorMnk
import Derived.Test.YtcfojkecmchbdaaDoorRefd
import Derived.Test.YtcfojkecmchbdaaDoorMah
namespace Go.Lin
open Go Go.Bul
theorem set_take {d : List Nat} {k : Nat} (hk : k < 16) (hd : 16 ≤ d.length) : (cellsOf .u8 (d.take k ++ Go.Thg.zeros (16 - k))).setIfInBounds k (.int .u8 ((d[k]'(by omega) : Nat) : Int)) = cellsOf .u8 (d.take (k + 1) ++ Go.Thg.zeros (16 - (k + 1))) := by
  have e : Go.Thg.zeros (16 - k) = 0 :: Go.Thg.zeros (16 - (k + 1)) := by
    rw [show 16 - k = (16 - (k + 1)) + 1 by omega]
    rfl
  have hl : (d.take k).length = k := by rw [List.length_take]; omega
  have h2 : ∀ (x : Nat) (m : List Nat), (d.take k ++ 0 :: m).set k x = d.take k ++ x :: m := fun x m => by
    rw [List.set_append_right _ _ (by omega), hl, Nat.sub_self]
    rfl
  have h3 : d.take (k + 1) ++ Go.Thg.zeros (16 - (k + 1)) = (d.take k ++ 0 :: Go.Thg.zeros (16 - (k + 1))).set k d[k] := by
    rw [h2, List.take_succ_eq_append_getElem (by omega), List.append_assoc]
    rfl
  rw [h3, e]
  apply Array.ext'
  simp [cellsOf, vals, List.map_set]
end Go.Lin
namespace Go.Proofs.YtcfojkecmchbdaaDoor
open Go Go.RowKit Go.Bul Go.Thg Go.Lin
set_option maxRecDepth 20000 in
set_option maxHeartbeats 4000000 in
theorem rhalf_any {w : World} {A : Option Addr} {n c : Nat} {bs : List Nat} (hr : Reads w 1 A n (vals .u8 bs)) (hb : Bytes bs) (hl : n ≤ 1000000) :
    Calls Tryd.prog 36 #[.slice A n c] w fun e w' => e = .returned (.agg (ndC (halfN bs))) ∧ Below w.heap.size w w' := by
  have hM := Mem.start [] w
  have HS := Lib.hid (fun w' (hk : Below w.heap.size w w') => ref_sum bs A n c _ w' (reads_rd (hr.keep hk) hb) (by omega))
  have HZ : Hid (halfN bs = ⟨(sha bs).take 16, half_length bs, bytes_half bs⟩) := Lib.hid rfl
  have hd := sha_length bs
  clear hr hb hl
  go_enter Tryd.func36, Tryd.ntmps36
  go_wp2_with (first | ((with_reducible refine (HS.out _ hM.below).mono ?_); rintro e w1 ⟨rfl, hb⟩; replace hM := hM.step hb; clear hb) | ((first | with_reducible refine at_load ?_ | ((with_reducible refine at_load_g ?_ ?_); (· rfl))); first | refine ll hM ?_ | refine lc hM ?_ | refine lp hM ?_) | ((with_reducible refine at_store ?_); first | (refine lw hM ?_; clear hM; intro wx hM) | (refine ls hM ?_; clear hM; intro wx hM) | (refine lt hM ?_; clear hM; intro wx hM)) | ((with_reducible refine at_alloc ?_); refine lz hM ?_; clear hM; intro gx wx hM) | ((with_reducible refine at_box ?_); refine lb hM ?_; clear hM; intro gx wx hM))
  obtain ⟨g4, hg4⟩ := hM.name1
  obtain ⟨g3, hg3⟩ := (hM.subL (List.sublist_cons_self _ _)).name1
  obtain ⟨g2, hg2⟩ := (hM.subL (List.Sublist.cons _ (List.Sublist.cons _ (List.Sublist.refl _)))).name1
  subst hg4 hg3 hg2
  obtain ⟨d, hdd⟩ : ∃ d, sha bs = d := ⟨_, rfl⟩
  rw [hdd] at hM hd
  have M0 := Lib.hid hM
  have HD := Lib.hid hdd
  have HDL := Lib.hid hd
  clear hM hdd hd HS
  go_loopw [5] (fun i wr => ∃ k : Nat, k ≤ 16 ∧ i = .int .i64 (k : Nat) ∧ Mem [] w [⟨g4, 24, 16, cellsOf .u8 (d.take k ++ Go.Thg.zeros (16 - k))⟩, ⟨g3, 98, 32, cellsOf .u8 d⟩, ⟨g2, 24, 16, ndC nd0⟩] [] wr) (fun i _ => 16 - (intOf i).toNat)
  case atStart => exact ⟨0, by omega, rfl, M0.out⟩
  case round =>
    clear M0
    obtain ⟨k, hk, rfl, hM⟩ := hrel
    by_cases hlt : k < 16
    · have hd := HDL.out
      have q0 : (0 : Int) ≤ (k : Int) := Int.natCast_nonneg _
      have q1 : (k : Int) < 16 := by omega
      have q2 : (k : Int) < 32 := by omega
      have HG := Lib.hid (show (cellsOf .u8 d)[k]? = some (.int .u8 ((d[k]'(by omega) : Nat) : Int)) by simp [cellsOf, vals, show k < d.length by omega])
      have HST := Lib.hid (set_take (d := d) hlt (by omega))
      obtain ⟨x, hx⟩ : ∃ x, d[k]'(by omega) = x := ⟨_, rfl⟩
      rw [hx] at HG HST
      have hx256 : k < 16 := hlt
      clear hx hd
      go_wp2_with (first | ((with_reducible refine at_load ?_); refine lcx HG.out hM ?_) | ((with_reducible refine at_store ?_); refine lsx (v := .int .u8 (x : Nat)) hlt hM ?_; clear hM; intro wx hM))
      rw [HST.out] at hM
      exact ⟨⟨k + 1, by omega, by go_num, hM⟩, by simp [intOf]; omega⟩
    · obtain rfl : k = 16 := by omega
      have e : d.take 16 ++ Go.Thg.zeros (16 - 16) = (halfN bs).val := by
        rw [HZ.out]
        show _ = (sha bs).take 16
        rw [HD.out]
        simp [Go.Thg.zeros]
      rw [e] at hM
      clear hlt hk e
      go_wp2_with (first | ((first | with_reducible refine at_load ?_ | ((with_reducible refine at_load_g ?_ ?_); (· rfl))); first | refine ll hM ?_ | refine lc hM ?_ | refine lp hM ?_) | ((with_reducible refine at_store ?_); first | (refine lw hM ?_; clear hM; intro wx hM) | (refine ls hM ?_; clear hM; intro wx hM) | (refine lt hM ?_; clear hM; intro wx hM)) | ((with_reducible refine at_alloc ?_); refine lz hM ?_; clear hM; intro gx wx hM) | ((with_reducible refine at_box ?_); refine lb hM ?_; clear hM; intro gx wx hM))
      exact bodyPost_ret (results_mem_cell hM rfl (by rfl) (by repeat (first | exact List.Mem.head _ | apply List.Mem.tail)) (by first | exact row_nd | exact row_n | exact row_half | exact row_a32 | exact row_nd2 | exact row_n2 | exact row_two | exact row_claim | exact row_bld | exact row_bnds)) rfl ⟨rfl, hM.below⟩
end Go.Proofs.YtcfojkecmchbdaaDoor
namespace Go.Proofs.YtcfojkecmchbdaaDoor
open Go Go.RowKit Go.Bul Go.Thg Go.Lin
set_option maxRecDepth 20000 in
set_option maxHeartbeats 4000000 in
theorem rleaf_any (z : Int) (A : Option Addr) (n c : Nat) (bs : List Nat) (w : World) (hr : Reads w 1 A n (vals .u8 bs)) (hb : Bytes bs) (hn : n ≤ 1000) :
    Calls Tryd.prog 13 #[.int .i64 z, .slice A n c] w fun e w' => e = .returned (.agg (ndC (leafN z bs))) ∧ Below w.heap.size w w' := by
  have hM := Mem.start [] w
  have hN := wrap_u32 z
  have hl : n = bs.length := by have := hr.1; simp at this; omega
  have HH : Hid (leafN z bs = halfN (headL z ++ bs)) := Lib.hid rfl
  have HHB := Lib.hid (bytes_leaf (z := z) hb)
  have HHL : Hid (headL z = [0, (z % 4294967296).toNat / 16777216, (z % 4294967296).toNat / 65536 % 256, (z % 4294967296).toNat / 256 % 256, (z % 4294967296).toNat % 256]) := Lib.hid rfl
  have hN3 : (z % 4294967296).toNat < 4294967296 := by omega
  generalize (z % 4294967296).toNat = N at hN HHL hN3
  have n0 : (0 : Int) ≤ (N : Int) := Int.natCast_nonneg _
  have n1 : (N : Int) < 4294967296 := by omega
  have HR := Lib.hid (fun w' (hb : Below w.heap.size w w') => (hr.keep hb).src (c := c) (P := Tryd.prog) (tx := 22) Tryd.underlying22 (vals_one _ _))
  have h63 : (headL z).length + bs.length ≤ 1000000000 := by simp [headL]; omega
  have HLN := Lib.hid hl
  generalize leafN z bs = Z at HH ⊢
  clear hr hl hb
  go_enter Tryd.func13, Tryd.ntmps13
  go_wp2_with (first | (refine lbb5 hM ?_; clear hM; intro g5 w5 hM; have hM2 : Mem [] w _ (bT (.slice (some ⟨g5, 0, none⟩) 5 5) (headL z) :: _) w5 := (by rw [HHL.out]; exact ent_row (k := 5) (size := 1) hM (by decide) (by decide) rfl); clear hM; have hM := hM2; clear hM2) | ((with_reducible refine at_append ?_); refine la (HR.out _ hM.below) hM h63 ?_; clear hM; intro A2 N2 c2 wx hN hM) | ((first | with_reducible refine at_load ?_ | ((with_reducible refine at_load_g ?_ ?_); (· rfl))); first | refine ll hM ?_ | refine lc hM ?_ | refine lp hM ?_) | ((with_reducible refine at_store ?_); first | (refine lw hM ?_; clear hM; intro wx hM) | (refine ls hM ?_; clear hM; intro wx hM) | (refine lt hM ?_; clear hM; intro wx hM)) | ((with_reducible refine at_alloc ?_); refine lz hM ?_; clear hM; intro gx wx hM) | ((with_reducible refine at_box ?_); refine lb hM ?_; clear hM; intro gx wx hM))
  obtain ⟨Y, hY⟩ : ∃ Y, headL z ++ bs = Y := ⟨_, rfl⟩
  have hYl : Y.length ≤ 1000000 := by rw [← hY]; have := HLN.out; simp [headL]; omega
  have HZ := Lib.hid (show Z = halfN Y by rw [HH.out, hY])
  have hYb : Bytes Y := by rw [← hY]; exact HHB.out
  obtain rfl : N2 = (headL z ++ bs).length := hN.out
  rw [hY] at hM ⊢
  obtain ⟨hrd, _, hnc⟩ := bT_reads (hM.thing _ (List.Mem.head _))
  have HS := Lib.hid (rhalf_any (c := c2) hrd hYb hYl)
  clear hrd hnc hY hYl hYb hN
  go_wp2_with (first | ((with_reducible refine HS.out.mono ?_); rintro e w4 ⟨rfl, hb⟩; replace hM := hM.step hb; clear hb) | ((first | with_reducible refine at_load ?_ | ((with_reducible refine at_load_g ?_ ?_); (· rfl))); first | refine ll hM ?_ | refine lc hM ?_ | refine lp hM ?_) | ((with_reducible refine at_store ?_); first | (refine lw hM ?_; clear hM; intro wx hM) | (refine ls hM ?_; clear hM; intro wx hM) | (refine lt hM ?_; clear hM; intro wx hM)) | ((with_reducible refine at_alloc ?_); refine lz hM ?_; clear hM; intro gx wx hM) | ((with_reducible refine at_box ?_); refine lb hM ?_; clear hM; intro gx wx hM))
  exact bodyPost_ret (results_mem_cell hM rfl (by rfl) (by repeat (first | exact List.Mem.head _ | apply List.Mem.tail)) (by first | exact row_nd | exact row_n | exact row_half | exact row_a32 | exact row_nd2 | exact row_n2 | exact row_two | exact row_claim | exact row_bld | exact row_bnds)) rfl ⟨by rw [HZ.out], hM.below⟩
theorem src_b1 {w w0 : World} {G : List Nat} {L : List Ent} {R : List Thing} {g x : Nat} {t : TypeId} (hM : Mem G w0 L R w) (hL : ⟨g, t, 1, #[.int .u8 (x : Nat)]⟩ ∈ L) : Src Tryd.prog 1 22 (.slice (some ⟨g, 0, none⟩) 1 1) 1 (vals .u8 [x]) w :=
  (show Reads w 1 (some ⟨g, 0, none⟩) 1 (vals .u8 [x]) from reads_ent hM hL).src (c := 1) Tryd.underlying22 (vals_one _ _)
theorem nd_cell (a : Nd) (k : Nat) (hk : k < 16) : (ndC a)[k]? = some (.int .u8 ((a.val[k]'(by rw [a.len]; exact hk) : Nat) : Int)) := by
  have : k < a.val.length := by rw [a.len]; exact hk
  simp [ndC, cellsOf, vals, this]
set_option maxRecDepth 20000 in
set_option maxHeartbeats 4000000 in
theorem rjoin_any (z : Int) (a b : Nd) (w : World) :
    Calls Tryd.prog 15 #[.int .i64 z, .agg (ndC a), .agg (ndC b)] w fun e w' => e = .returned (.agg (ndC (joinN z a b))) ∧ Below w.heap.size w w' := by
  have hM := Mem.start [] w
  have hN := wrap_u8 z
  have HH : Hid (joinN z a b = halfN ([1, (z % 256).toNat] ++ (a.val ++ b.val))) := Lib.hid rfl
  have HB : Hid (Bytes ([1, (z % 256).toNat] ++ (a.val ++ b.val))) := Lib.hid (bytes_join z a b)
  have hN3 : (z % 256).toNat < 256 := by omega
  generalize (z % 256).toNat = N at hN HH HB hN3
  have n0 : (0 : Int) ≤ (N : Int) := Int.natCast_nonneg _
  have n1 : (N : Int) < 256 := by omega
  generalize joinN z a b = Z at HH ⊢
  go_enter Tryd.func15, Tryd.ntmps15
  go_wp2_with (first | (refine lbb2 hM ?_; clear hM; intro g1 w5 hM; have hM2 : Mem [] w _ (bT (.slice (some ⟨g1, 0, none⟩) 2 2) ([1, N] ++ a.val.take 0) :: _) w5 := ent_row (k := 2) (size := 1) hM (by decide) (by decide) rfl; clear hM; have hM := hM2; clear hM2) | ((first | with_reducible refine at_load ?_ | ((with_reducible refine at_load_g ?_ ?_); (· rfl))); first | refine ll hM ?_ | refine lc hM ?_ | refine lp hM ?_) | ((with_reducible refine at_store ?_); first | (refine lw hM ?_; clear hM; intro wx hM) | (refine ls hM ?_; clear hM; intro wx hM) | (refine lt hM ?_; clear hM; intro wx hM)) | ((with_reducible refine at_alloc ?_); refine lz hM ?_; clear hM; intro gx wx hM) | ((with_reducible refine at_box ?_); refine lb hM ?_; clear hM; intro gx wx hM))
  obtain ⟨g6, hg6⟩ := hM.name1
  obtain ⟨g5, hg5⟩ := (hM.subL (List.sublist_cons_self _ _)).name1
  obtain ⟨g4, hg4⟩ := (hM.subL (List.Sublist.cons _ (List.Sublist.cons _ (List.Sublist.refl _)))).name1
  subst hg6 hg5 hg4
  have M0 := Lib.hid hM
  clear hM
  go_loopw [8, 7] (fun i v wr => ∃ (k : Nat) (A' : Option Addr) (c' : Nat), k ≤ 16 ∧ i = .int .i64 (k : Nat) ∧ v = .slice A' ([1, N] ++ a.val.take k).length c' ∧ Mem [] w [⟨g6, 24, 16, ndC nd0⟩, ⟨g5, 24, 16, ndC b⟩, ⟨g4, 24, 16, ndC a⟩] [bT (.slice A' ([1, N] ++ a.val.take k).length c') ([1, N] ++ a.val.take k)] wr) (fun i _ _ => 16 - (intOf i).toNat)
  case atStart => exact ⟨0, _, 2, by omega, rfl, rfl, M0.out⟩
  case round =>
    clear M0
    obtain ⟨k, A', c', hk, rfl, rfl, hM⟩ := hrel
    by_cases hlt : k < 16
    · have hal := a.len
      have q0 : (0 : Int) ≤ (k : Int) := Int.natCast_nonneg _
      have q1 : (k : Int) < 16 := by omega
      have HG := Lib.hid (nd_cell a k hlt)
      have htk : [1, N] ++ a.val.take (k + 1) = ([1, N] ++ a.val.take k) ++ [a.val[k]'(by omega)] := by rw [List.take_succ_eq_append_getElem (by omega), List.append_assoc]
      obtain ⟨x, hx⟩ : ∃ x, a.val[k]'(by omega) = x := ⟨_, rfl⟩
      rw [hx] at HG htk
      have h63 : ([1, N] ++ a.val.take k).length + [x].length ≤ 1000000000 := by simp; omega
      obtain ⟨cur, hcur⟩ : ∃ c, [1, N] ++ a.val.take k = c := ⟨_, rfl⟩
      rw [hcur] at hM htk h63 ⊢
      have HTK := Lib.hid htk
      clear hx hal htk hcur
      go_wp2_with (first | ((with_reducible refine at_load ?_); refine lcx HG.out hM ?_) | (refine lbb1 hM ?_; clear hM; intro g1 w5 hM) | ((with_reducible refine at_append ?_); refine la (src_b1 hM (List.Mem.head _)) hM h63 ?_; clear hM; intro A2 N2 c2 wx hN2 hM))
      obtain rfl : N2 = (cur ++ [x]).length := hN2.out
      exact ⟨⟨k + 1, A2, c2, by omega, by go_num, by rw [HTK.out], by rw [HTK.out]; exact hM.subL (List.sublist_cons_self _ _)⟩, by simp [intOf]; omega⟩
    · obtain rfl : k = 16 := by omega
      have e : [1, N] ++ a.val.take 16 = ([1, N] ++ a.val) ++ b.val.take 0 := by rw [List.take_of_length_le (by rw [a.len]; exact Nat.le_refl _), List.take_zero, List.append_nil]
      rw [e] at hM ⊢
      rw [show ((16 : Nat) : Int) = (16 : Int) from rfl]
      obtain ⟨pre, hpre⟩ : ∃ p, [1, N] ++ a.val = p := ⟨_, rfl⟩
      have hpl : pre.length = 18 := by rw [← hpre]; simp [a.len]
      rw [hpre] at hM ⊢
      have HPL := Lib.hid hpl
      have HPRE := Lib.hid hpre
      clear hlt hk e hpl hpre
      go_wp2_with fail
      have M1 := Lib.hid hM
      clear hM
      go_loopw [9, 7] (fun i v wr => ∃ (k : Nat) (A' : Option Addr) (c' : Nat), k ≤ 16 ∧ i = .int .i64 (k : Nat) ∧ v = .slice A' (pre ++ b.val.take k).length c' ∧ Mem [] w [⟨g6, 24, 16, ndC nd0⟩, ⟨g5, 24, 16, ndC b⟩, ⟨g4, 24, 16, ndC a⟩] [bT (.slice A' (pre ++ b.val.take k).length c') (pre ++ b.val.take k)] wr) (fun i _ _ => 16 - (intOf i).toNat)
      case atStart => exact ⟨0, _, c', by omega, rfl, rfl, M1.out⟩
      case round =>
        clear M1
        obtain ⟨k, A', c', hk, rfl, rfl, hM⟩ := hrel
        by_cases hlt : k < 16
        · have hbl := b.len
          have hpl := HPL.out
          have q0 : (0 : Int) ≤ (k : Int) := Int.natCast_nonneg _
          have q1 : (k : Int) < 16 := by omega
          have HG := Lib.hid (nd_cell b k hlt)
          have htk : pre ++ b.val.take (k + 1) = (pre ++ b.val.take k) ++ [b.val[k]'(by omega)] := by rw [List.take_succ_eq_append_getElem (by omega), List.append_assoc]
          obtain ⟨x, hx⟩ : ∃ x, b.val[k]'(by omega) = x := ⟨_, rfl⟩
          rw [hx] at HG htk
          have h63 : (pre ++ b.val.take k).length + [x].length ≤ 1000000000 := by simp; omega
          obtain ⟨cur, hcur⟩ : ∃ c, pre ++ b.val.take k = c := ⟨_, rfl⟩
          rw [hcur] at hM htk h63 ⊢
          have HTK := Lib.hid htk
          clear hx hbl hpl htk hcur
          go_wp2_with (first | ((with_reducible refine at_load ?_); refine lcx HG.out hM ?_) | (refine lbb1 hM ?_; clear hM; intro g1 w5 hM) | ((with_reducible refine at_append ?_); refine la (src_b1 hM (List.Mem.head _)) hM h63 ?_; clear hM; intro A2 N2 c2 wx hN2 hM))
          obtain rfl : N2 = (cur ++ [x]).length := hN2.out
          exact ⟨⟨k + 1, A2, c2, by omega, by go_num, by rw [HTK.out], by rw [HTK.out]; exact hM.subL (List.sublist_cons_self _ _)⟩, by simp [intOf]; omega⟩
        · obtain rfl : k = 16 := by omega
          obtain ⟨Y, hY⟩ : ∃ Y, pre ++ b.val.take 16 = Y := ⟨_, rfl⟩
          have hYe : [1, N] ++ (a.val ++ b.val) = Y := by rw [← hY, ← HPRE.out, List.take_of_length_le (by rw [b.len]; exact Nat.le_refl _), List.append_assoc]
          have hYl : Y.length ≤ 1000000 := by rw [← hYe]; simp [a.len, b.len]
          have HZ := Lib.hid (show Z = halfN Y by rw [HH.out, hYe])
          have hYb : Bytes Y := by rw [← hYe]; exact HB.out
          rw [hY] at hM ⊢
          obtain ⟨hrd, _, hnc⟩ := bT_reads (hM.thing _ (List.Mem.head _))
          have HS := Lib.hid (fun w' (hb : Below wr.heap.size wr w') => rhalf_any (c := c') (hrd.keep hb) hYb hYl)
          clear hY hYe hYl hYb hlt hk hrd hnc
          go_wp2_with (first | ((with_reducible refine (HS.out _ (Below.refl _ _)).mono ?_); rintro e w4 ⟨rfl, hb⟩; replace hM := hM.step hb; clear hb) | ((first | with_reducible refine at_load ?_ | ((with_reducible refine at_load_g ?_ ?_); (· rfl))); first | refine ll hM ?_ | refine lc hM ?_ | refine lp hM ?_) | ((with_reducible refine at_store ?_); first | (refine lw hM ?_; clear hM; intro wx hM) | (refine ls hM ?_; clear hM; intro wx hM) | (refine lt hM ?_; clear hM; intro wx hM)) | ((with_reducible refine at_alloc ?_); refine lz hM ?_; clear hM; intro gx wx hM) | ((with_reducible refine at_box ?_); refine lb hM ?_; clear hM; intro gx wx hM))
          exact bodyPost_ret (results_mem_cell hM rfl (by rfl) (by repeat (first | exact List.Mem.head _ | apply List.Mem.tail)) (by first | exact row_nd | exact row_n | exact row_half | exact row_a32 | exact row_nd2 | exact row_n2 | exact row_two | exact row_claim | exact row_bld | exact row_bnds)) rfl ⟨by rw [HZ.out], hM.below⟩
end Go.Proofs.YtcfojkecmchbdaaDoor
