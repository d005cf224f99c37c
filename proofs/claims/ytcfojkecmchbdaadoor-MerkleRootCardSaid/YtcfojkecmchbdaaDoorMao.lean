/- Contracts of the reference's half, Leaf, Join. -/
import Derived.Test.YtcfojkecmchbdaaDoorMae
import Derived.Test.YtcfojkecmchbdaaDoorRefd
namespace Go.Lin
open Go Go.Bul
theorem set_take {d : List Nat} {k : Nat} (hk : k < 16) (hd : 16 ≤ d.length) : (cellsOf .u8 (d.take k ++ Go.Thg.zeros (16 - k))).setIfInBounds k (.int .u8 ((d[k]'(by omega) : Nat) : Int)) = cellsOf .u8 (d.take (k + 1) ++ Go.Thg.zeros (16 - (k + 1))) := by
  have e : Go.Thg.zeros (16 - k) = 0 :: Go.Thg.zeros (16 - (k + 1)) := by
    rw [show 16 - k = (16 - (k + 1)) + 1 by omega]
    rfl
  have hl : (d.take k).length = k := by rw [List.length_take]; omega
  have h2 : ∀ (x : Nat) (m : List Nat), (d.take k ++ 0 :: m).set k x = d.take k ++ x :: m := fun x m => by
    rw [List.set_append_right _ _ (by omega), hl, Nat.sub_self]
    rfl
  have h3 : d.take (k + 1) ++ Go.Thg.zeros (16 - (k + 1)) = (d.take k ++ 0 :: Go.Thg.zeros (16 - (k + 1))).set k d[k] := by
    rw [h2, List.take_succ_eq_append_getElem (by omega), List.append_assoc]
    rfl
  rw [h3, e]
  apply Array.ext'
  simp [cellsOf, vals, List.map_set]
end Go.Lin
namespace Go.Proofs.YtcfojkecmchbdaaDoor
open Go Go.RowKit Go.Bul Go.Thg Go.Lin
set_option maxRecDepth 20000 in
set_option maxHeartbeats 4000000 in
theorem rhalf_any {w : World} {A : Option Addr} {n c : Nat} {bs : List Nat} (hr : Reads w 1 A n (vals .u8 bs)) (hb : Bytes bs) (hl : n ≤ 1000000) :
    Calls Tryd.prog 36 #[.slice A n c] w fun e w' => e = .returned (.agg (ndC (halfN bs))) ∧ Below w.heap.size w w' := by
  have hM := Mem.start [] w
  have HS := Lib.hid (fun w' (hk : Below w.heap.size w w') => ref_sum bs A n c _ w' (reads_rd (hr.keep hk) hb) (by omega))
  have HZ : Hid (halfN bs = ⟨(sha bs).take 16, half_length bs, bytes_half bs⟩) := Lib.hid rfl
  have hd := sha_length bs
  clear hr hb hl
  go_enter Tryd.func36, Tryd.ntmps36
  go_wp2_with (first | ((with_reducible refine (HS.out _ hM.below).mono ?_); rintro e w1 ⟨rfl, hb⟩; replace hM := hM.step hb; clear hb) | ((first | with_reducible refine at_load ?_ | ((with_reducible refine at_load_g ?_ ?_); (· rfl))); first | refine ll hM ?_ | refine lc hM ?_ | refine lp hM ?_) | ((with_reducible refine at_store ?_); first | (refine lw hM ?_; clear hM; intro wx hM) | (refine ls hM ?_; clear hM; intro wx hM) | (refine lt hM ?_; clear hM; intro wx hM)) | ((with_reducible refine at_alloc ?_); refine lz hM ?_; clear hM; intro gx wx hM) | ((with_reducible refine at_box ?_); refine lb hM ?_; clear hM; intro gx wx hM))
  obtain ⟨g4, hg4⟩ := hM.name1
  obtain ⟨g3, hg3⟩ := (hM.subL (List.sublist_cons_self _ _)).name1
  obtain ⟨g2, hg2⟩ := (hM.subL (List.Sublist.cons _ (List.Sublist.cons _ (List.Sublist.refl _)))).name1
  subst hg4 hg3 hg2
  obtain ⟨d, hdd⟩ : ∃ d, sha bs = d := ⟨_, rfl⟩
  rw [hdd] at hM hd
  have M0 := Lib.hid hM
  have HD := Lib.hid hdd
  have HDL := Lib.hid hd
  clear hM hdd hd HS
  go_loopw [5] (fun i wr => ∃ k : Nat, k ≤ 16 ∧ i = .int .i64 (k : Nat) ∧ Mem [] w [⟨g4, 24, 16, cellsOf .u8 (d.take k ++ Go.Thg.zeros (16 - k))⟩, ⟨g3, 98, 32, cellsOf .u8 d⟩, ⟨g2, 24, 16, ndC nd0⟩] [] wr) (fun i _ => 16 - (intOf i).toNat)
  case atStart => exact ⟨0, by omega, rfl, M0.out⟩
  case round =>
    clear M0
    obtain ⟨k, hk, rfl, hM⟩ := hrel
    by_cases hlt : k < 16
    · have hd := HDL.out
      have q0 : (0 : Int) ≤ (k : Int) := Int.natCast_nonneg _
      have q1 : (k : Int) < 16 := by omega
      have q2 : (k : Int) < 32 := by omega
      have HG := Lib.hid (show (cellsOf .u8 d)[k]? = some (.int .u8 ((d[k]'(by omega) : Nat) : Int)) by simp [cellsOf, vals, show k < d.length by omega])
      have HST := Lib.hid (set_take (d := d) hlt (by omega))
      obtain ⟨x, hx⟩ : ∃ x, d[k]'(by omega) = x := ⟨_, rfl⟩
      rw [hx] at HG HST
      have hx256 : k < 16 := hlt
      clear hx hd
      go_wp2_with (first | ((with_reducible refine at_load ?_); refine lcx HG.out hM ?_) | ((with_reducible refine at_store ?_); refine lsx (v := .int .u8 (x : Nat)) hlt hM ?_; clear hM; intro wx hM))
      rw [HST.out] at hM
      exact ⟨⟨k + 1, by omega, by go_num, hM⟩, by simp [intOf]; omega⟩
    · obtain rfl : k = 16 := by omega
      have e : d.take 16 ++ Go.Thg.zeros (16 - 16) = (halfN bs).val := by
        rw [HZ.out]
        show _ = (sha bs).take 16
        rw [HD.out]
        simp [Go.Thg.zeros]
      rw [e] at hM
      clear hlt hk e
      go_wp2_with (first | ((first | with_reducible refine at_load ?_ | ((with_reducible refine at_load_g ?_ ?_); (· rfl))); first | refine ll hM ?_ | refine lc hM ?_ | refine lp hM ?_) | ((with_reducible refine at_store ?_); first | (refine lw hM ?_; clear hM; intro wx hM) | (refine ls hM ?_; clear hM; intro wx hM) | (refine lt hM ?_; clear hM; intro wx hM)) | ((with_reducible refine at_alloc ?_); refine lz hM ?_; clear hM; intro gx wx hM) | ((with_reducible refine at_box ?_); refine lb hM ?_; clear hM; intro gx wx hM))
      exact bodyPost_ret (results_mem_cell hM rfl (by rfl) (by repeat (first | exact List.Mem.head _ | apply List.Mem.tail)) (by first | exact row_nd | exact row_n | exact row_half | exact row_a32 | exact row_nd2 | exact row_n2 | exact row_two | exact row_claim | exact row_bld | exact row_bnds)) rfl ⟨rfl, hM.below⟩
end Go.Proofs.YtcfojkecmchbdaaDoor
