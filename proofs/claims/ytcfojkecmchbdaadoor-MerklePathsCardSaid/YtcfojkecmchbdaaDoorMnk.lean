/- Contracts of merkle.Leaf, Join. Contract of merkle.Join. -/
import Derived.Test.YtcfojkecmchbdaaDoorMaf
import Derived.Test.YtcfojkecmchbdaaDoorSum
import Derived.Test.YtcfojkecmchbdaaDoorReg
import Derived.Deep.CutRange
import Derived.Deep.CutBlock
import Derived.Test.YtcfojkecmchbdaaDoorRgm
namespace Go.Lin
open Go Go.Bul
/-- The bytes of a leaf, of a parent. -/
def headL (z : Int) : List Nat := [0, (z % 4294967296).toNat / 16777216, (z % 4294967296).toNat / 65536 % 256, (z % 4294967296).toNat / 256 % 256, (z % 4294967296).toNat % 256]
def leafL (z : Int) (bs : List Nat) : List Nat := headL z ++ bs
def joinL (z : Int) (a b : Nd) : List Nat := [1, (z % 256).toNat] ++ (a.val ++ b.val)
def leafN (z : Int) (bs : List Nat) : Nd := halfN (leafL z bs)
def joinN (z : Int) (a b : Nd) : Nd := halfN (joinL z a b)
theorem bytes_head (z : Int) : Bytes (headL z) := by
  intro x hx
  simp only [headL, List.mem_cons, List.not_mem_nil, or_false] at hx
  omega
theorem bytes_leaf {z : Int} {bs : List Nat} (h : Bytes bs) : Bytes (leafL z bs) := fun x hx => (List.mem_append.1 hx).elim (bytes_head z x) (h x)
theorem bytes_join (z : Int) (a b : Nd) : Bytes (joinL z a b) := by
  intro x hx
  rcases List.mem_append.1 hx with hx | hx
  · simp only [List.mem_cons, List.not_mem_nil, or_false] at hx
    omega
  · exact (List.mem_append.1 hx).elim (a.byt x) (b.byt x)
theorem joinL_length (z : Int) (a b : Nd) : (joinL z a b).length = 34 := by simp [joinL, a.len, b.len]
end Go.Lin
namespace Go.Proofs.YtcfojkecmchbdaaDoor
open Go Go.RowKit Go.Bul Go.Thg Go.Lin
theorem reads_rd {w : World} {A : Option Addr} {n : Nat} {bs : List Nat} (h : Reads w 1 A n (vals .u8 bs)) (hb : Bytes bs) : Rd w (fun _ => True) A n bs := by
  have hl : n = bs.length := by have := h.1; simp at this; omega
  refine ⟨hl.symm, hb, fun h0 => ?_⟩
  obtain ⟨g, off, rfl, hg, hc⟩ := h.2 h0
  refine ⟨_, rfl, trivial, hg, fun j hj => ?_⟩
  rw [addr_at]
  refine hc j _ ?_
  have hj' : j < bs.length := by omega
  rw [List.getD_eq_getElem?_getD, List.getElem?_eq_getElem hj']
  simp [vals, hj']
/-- SumHalf. -/
theorem half_c {w : World} {A : Option Addr} {n c : Nat} {bs : List Nat} (h : Reads w 1 A n (vals .u8 bs)) (hb : Bytes bs) (hnc : n ≤ c) (hl : n ≤ 1000000) (hT : Tab w) :
    Calls Tryd.prog 34 #[.slice A n c] w fun e w' => e = .returned (.agg (ndC (halfN bs))) ∧ Below w.heap.size w w' :=
  half_any bs A n c _ w (reads_rd h hb) hnc (by omega) hT
theorem wrap_u32 (z : Int) : IntKind.u32.wrap z = ((z % 4294967296).toNat : Int) := by
  have h : IntKind.u32.wrap z = z % 4294967296 := by simp [IntKind.wrap, IntKind.signed, IntKind.bits]
  rw [h]
  omega
theorem wrap_u8 (z : Int) : IntKind.u8.wrap z = ((z % 256).toNat : Int) := by
  have h : IntKind.u8.wrap z = z % 256 := by simp [IntKind.wrap, IntKind.signed, IntKind.bits]
  rw [h]
  omega
theorem vals_app (k : IntKind) (a b : List Nat) : vals k (a ++ b) = vals k a ++ vals k b := by simp [vals]
set_option maxRecDepth 20000 in
set_option maxHeartbeats 4000000 in
theorem leaf_any (z : Int) (A : Option Addr) (n c : Nat) (bs : List Nat) (w : World) (hr : Reads w 1 A n (vals .u8 bs)) (hb : Bytes bs) (hn : n ≤ 1000) (hT : Tab w) :
    Calls Tryd.prog 12 #[.int .i64 z, .slice A n c] w fun e w' => e = .returned (.agg (ndC (leafN z bs))) ∧ Below w.heap.size w w' := by
  have hM := Mem.start [] w
  have hN := wrap_u32 z
  have hl : n = bs.length := by have := hr.1; simp at this; omega
  have HH : Hid (leafN z bs = halfN (headL z ++ bs)) := Lib.hid rfl
  have HHB := Lib.hid (bytes_leaf (z := z) hb)
  have HHL : Hid (headL z = [0, (z % 4294967296).toNat / 16777216, (z % 4294967296).toNat / 65536 % 256, (z % 4294967296).toNat / 256 % 256, (z % 4294967296).toNat % 256]) := Lib.hid rfl
  have hN3 : (z % 4294967296).toNat < 4294967296 := by omega
  generalize (z % 4294967296).toNat = N at hN HHL hN3
  have n0 : (0 : Int) ≤ (N : Int) := Int.natCast_nonneg _
  have n1 : (N : Int) < 4294967296 := by omega
  have HR := Lib.hid hr
  have HT := Lib.hid hT
  have HLN := Lib.hid hl
  generalize leafN z bs = Z at HH ⊢
  clear hr hT hl hb
  go_enter Tryd.func12, Tryd.ntmps12
  go_wp2_with (first | (refine lbb5 hM ?_; clear hM; intro g5 w5 hM) | (refine lbs2 hM ?_; clear hM; intro g2 w2 hM) | ((first | with_reducible refine at_load ?_ | ((with_reducible refine at_load_g ?_ ?_); (· rfl))); first | refine lc hM ?_ | refine ll hM ?_ | refine lp hM ?_) | ((with_reducible refine at_store ?_); first | (refine ls hM ?_; clear hM; intro wx hM) | (refine lw hM ?_; clear hM; intro wx hM) | (refine lt hM ?_; clear hM; intro wx hM)) | ((with_reducible refine at_alloc ?_); refine lz hM ?_; clear hM; intro gx wx hM) | ((with_reducible refine at_box ?_); refine lb hM ?_; clear hM; intro gx wx hM))
  have hcin : CIn w2 (some ⟨g2, 0, none⟩) 2 [(.slice (some ⟨g5, 0, none⟩) 5 5, headL z), (.slice A n c, bs)] := by
    refine ⟨reads_ent hM (List.Mem.head _), fun p hp => ?_⟩
    simp only [List.mem_cons, List.not_mem_nil, or_false] at hp
    rcases hp with rfl | rfl
    · refine ⟨_, 5, rfl, ?_⟩
      rw [HHL.out]
      exact reads_ent hM (List.Mem.tail _ (List.Mem.head _))
    · exact ⟨A, c, by rw [HLN.out], by rw [← HLN.out]; exact HR.out.keep hM.below⟩
  refine (concat_any (c := 2) hcin (by have := HLN.out; simp [total, headL]; omega) (by decide)).mono ?_
  rintro e w3 ⟨cA, cc, rfl, hb⟩
  replace hM := hM.newThing hb
  clear hb hcin
  have hfl : flatP [(Value.slice (some ⟨g5, 0, none⟩) 5 5, headL z), (Value.slice A n c, bs)] = headL z ++ bs := by simp [flatP]
  obtain ⟨Y, hY⟩ : ∃ Y, headL z ++ bs = Y := ⟨_, rfl⟩
  have hYl : Y.length ≤ 1000000 := by rw [← hY]; have := HLN.out; simp [headL]; omega
  have HZ := Lib.hid (show Z = halfN Y by rw [HH.out, hY])
  have hYb : Bytes Y := by rw [← hY]; exact HHB.out
  rw [hfl, hY] at hM ⊢
  obtain ⟨hrd, _, hnc⟩ := bT_reads (hM.thing _ (List.Mem.head _))
  have HS := Lib.hid (half_c hrd hYb hnc hYl (HT.out.keep hM.below))
  clear hrd hnc hfl hY hYl hYb
  go_wp2_with (first | ((with_reducible refine HS.out.mono ?_); rintro e w4 ⟨rfl, hb⟩; replace hM := hM.step hb; clear hb) | ((first | with_reducible refine at_load ?_ | ((with_reducible refine at_load_g ?_ ?_); (· rfl))); first | refine lc hM ?_ | refine ll hM ?_ | refine lp hM ?_) | ((with_reducible refine at_store ?_); first | (refine ls hM ?_; clear hM; intro wx hM) | (refine lw hM ?_; clear hM; intro wx hM) | (refine lt hM ?_; clear hM; intro wx hM)) | ((with_reducible refine at_alloc ?_); refine lz hM ?_; clear hM; intro gx wx hM) | ((with_reducible refine at_box ?_); refine lb hM ?_; clear hM; intro gx wx hM))
  exact bodyPost_ret (results_mem_cell hM rfl (by rfl) (by repeat (first | exact List.Mem.head _ | apply List.Mem.tail)) (by first | exact row_nd | exact row_n | exact row_half | exact row_a32 | exact row_nd2 | exact row_n2 | exact row_two | exact row_claim | exact row_bld | exact row_bnds)) rfl ⟨by rw [HZ.out], hM.below⟩
end Go.Proofs.YtcfojkecmchbdaaDoor
namespace Go.Proofs.YtcfojkecmchbdaaDoor
open Go Go.RowKit Go.Bul Go.Thg Go.Lin
theorem cells_list (k : IntKind) (l : List Nat) : (cellsOf k l).toList = vals k l := by simp [cellsOf]
set_option maxRecDepth 20000 in
set_option maxHeartbeats 4000000 in
theorem join_any (z : Int) (a b : Nd) (w : World) (hT : Tab w) :
    Calls Tryd.prog 14 #[.int .i64 z, .agg (ndC a), .agg (ndC b)] w fun e w' => e = .returned (.agg (ndC (joinN z a b))) ∧ Below w.heap.size w w' := by
  have hM := Mem.start [] w
  have hN := wrap_u8 z
  have HH : Hid (joinN z a b = halfN ([1, (z % 256).toNat] ++ (a.val ++ b.val))) := Lib.hid rfl
  have HB : Hid (Bytes ([1, (z % 256).toNat] ++ (a.val ++ b.val))) := Lib.hid (bytes_join z a b)
  have HL : Hid (([1, (z % 256).toNat] ++ (a.val ++ b.val)).length = 34) := Lib.hid (joinL_length z a b)
  have hN3 : (z % 256).toNat < 256 := by omega
  generalize (z % 256).toNat = N at hN HH HB HL hN3
  have n0 : (0 : Int) ≤ (N : Int) := Int.natCast_nonneg _
  have n1 : (N : Int) < 256 := by omega
  have HT := Lib.hid hT
  generalize joinN z a b = Z at HH ⊢
  clear hT
  go_enter Tryd.func14, Tryd.ntmps14
  go_wp2_with (first | ((first | with_reducible refine at_load ?_ | ((with_reducible refine at_load_g ?_ ?_); (· rfl))); first | refine lc hM ?_ | refine ll hM ?_ | refine lp hM ?_) | ((with_reducible refine at_store ?_); first | (refine ls hM ?_; clear hM; intro wx hM) | (refine lw hM ?_; clear hM; intro wx hM) | (refine lt hM ?_; clear hM; intro wx hM)) | ((with_reducible refine at_alloc ?_); refine lz hM ?_; clear hM; intro gx wx hM) | ((with_reducible refine at_box ?_); refine lb hM ?_; clear hM; intro gx wx hM))
  obtain ⟨g5, hg5⟩ := (hM.subL (List.sublist_cons_self _ _)).name1
  obtain ⟨g4, hg4⟩ := (hM.subL (List.Sublist.cons _ (List.Sublist.cons _ (List.Sublist.refl _)))).name1
  subst hg5 hg4
  replace hM := hM.drew
  refine wp_region_all (by kernel_rfl) ?_
  refine wpAll_takes [0, 1, 3, 4] (by kernel_rfl) (fun _ _ _ _ _ h => h) (by kernel_rfl) ?_
  simp only [pickOps, List.filterMap_cons, List.filterMap_nil, List.getElem?_cons_zero, List.getElem?_cons_succ]
  repeat ((with_reducible apply wpPure_step); (· rfl); (· (intro w; go_simp; rfl)); intro K hK; go_simp; (with_reducible refine hK _ ?_); clear hK K)
  refine wpPure_nil ?_
  refine wpAll_one 2 rfl (by kernel_rfl) ?_
  refine lbb2 hM ?_
  clear hM
  intro g1 w1 hM
  refine wpList_then ?_
  go_simp
  refine wpAll_one 5 rfl (by kernel_rfl) ?_
  refine lbs3 hM ?_
  clear hM
  intro g2 w2 hM
  refine wpList_then ?_
  go_simp
  have hcin : CIn w2 (some ⟨g2, 0, none⟩) 3 [(.slice (some ⟨g1, 0, none⟩) 2 2, [1, N]), (.slice (some ⟨g4, 0, none⟩) 16 16, a.val), (.slice (some ⟨g5, 0, none⟩) 16 16, b.val)] := by
    refine ⟨reads_ent hM (List.Mem.head _), fun p hp => ?_⟩
    simp only [List.mem_cons, List.not_mem_nil, or_false] at hp
    rcases hp with rfl | rfl | rfl
    · exact ⟨_, 2, rfl, reads_ent hM (List.Mem.tail _ (List.Mem.head _))⟩
    · refine ⟨some ⟨g4, 0, none⟩, 16, by rw [a.len], ?_⟩
      have h := reads_ent hM (g := g4) (t := 27) (n := 16) (cs := ndC a) (by repeat (first | exact List.Mem.head _ | apply List.Mem.tail))
      rw [cells_list] at h
      rw [a.len]
      exact h
    · refine ⟨some ⟨g5, 0, none⟩, 16, by rw [b.len], ?_⟩
      have h := reads_ent hM (g := g5) (t := 27) (n := 16) (cs := ndC b) (by repeat (first | exact List.Mem.head _ | apply List.Mem.tail))
      rw [cells_list] at h
      rw [b.len]
      exact h
  refine wpAll_one 6 rfl (by kernel_rfl) ?_
  go_wp2_with fail
  refine (concat_any (c := 3) hcin (by simp [total, a.len, b.len]) (by decide)).mono ?_
  rintro e w3 ⟨cA, cc, rfl, hb⟩
  replace hM := hM.newThing hb
  clear hb hcin
  go_wp2_with fail
  refine then_normal ?_
  obtain ⟨Y, hY⟩ : ∃ Y, [1, N] ++ (a.val ++ b.val) = Y := ⟨_, rfl⟩
  have hfl : flatP [(Value.slice (some ⟨g1, 0, none⟩) 2 2, [1, N]), (Value.slice (some ⟨g4, 0, none⟩) 16 16, a.val), (Value.slice (some ⟨g5, 0, none⟩) 16 16, b.val)] = Y := by rw [← hY]; simp [flatP]
  have hYl : Y.length ≤ 1000000 := by rw [← hY, HL.out]; decide
  have HZ := Lib.hid (show Z = halfN Y by rw [HH.out, hY])
  have hYb : Bytes Y := by rw [← hY]; exact HB.out
  rw [hfl] at hM ⊢
  obtain ⟨hrd, _, hnc⟩ := bT_reads (hM.thing _ (List.Mem.head _))
  have HS := Lib.hid (half_c hrd hYb hnc hYl (HT.out.keep hM.below))
  clear hrd hnc hfl hY hYl hYb
  refine wpAll_one 7 rfl (by kernel_rfl) ?_
  go_wp2_with fail
  refine HS.out.mono ?_
  rintro e w4 ⟨rfl, hb⟩
  replace hM := hM.step hb
  clear hb
  go_wp2_with fail
  refine then_normal ?_
  refine wpAll_one 8 rfl (by kernel_rfl) ?_
  refine lw hM ?_
  clear hM
  intro w5 hM
  refine wpList_then (wpAll_done (by kernel_rfl) ?_)
  go_wp2_with fail
  exact bodyPost_ret (results_mem_cell hM rfl (by rfl) (by repeat (first | exact List.Mem.head _ | apply List.Mem.tail)) (by first | exact row_nd | exact row_n | exact row_half | exact row_a32 | exact row_nd2 | exact row_n2 | exact row_two | exact row_claim | exact row_bld | exact row_bnds)) rfl ⟨by rw [HZ.out], hM.below⟩
end Go.Proofs.YtcfojkecmchbdaaDoor
