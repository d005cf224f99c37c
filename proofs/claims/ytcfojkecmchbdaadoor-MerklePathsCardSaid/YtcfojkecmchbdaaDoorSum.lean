/- Contracts of sha256.Sum, SumHalf. -/
import Derived.Test.YtcfojkecmchbdaaDoorSumh
import Derived.Laws.Cover3
namespace Go.Proofs.YtcfojkecmchbdaaDoor
open Go Go.RowKit Go.Bul
theorem Tab.lt {w : World} (h : Tab w) : 2 < w.heap.size := by
  rcases Nat.lt_or_ge 2 w.heap.size with h' | h'
  · exact h'
  · have h0 := h 0 (by omega)
    simp [World.cell?, Array.getElem?_eq_none h'] at h0
theorem sum_any (bs : List Nat) (A : Option Addr) (n c : Nat) (ok : Nat → Prop) (w : World) (hr : Rd w ok A n bs) (hn : n ≤ c) (hl : n ≤ 1099511627776) (hT : Tab w) :
    Calls Tryd.prog 47 #[.slice A n c] w fun e w' => e = .returned (.agg (cellsOf .u8 (sha bs))) ∧ Below w.heap.size w w' := by
  have hw := hT.lt
  have HR := Lib.hid hr
  have HT := Lib.hid hT
  clear hr hT
  go_enter Tryd.func47, Tryd.ntmps47
  go_wp2_with (first
    | (with_reducible refine wpList_alloc_zero rfl 99 rfl _ zero_dig ?_))
  (with_reducible refine (new_any _).mono ?_)
  rintro e w1 ⟨rfl, hh1, hb1⟩
  have hsz1 := hb1.size
  rw [World.size_alloc] at hh1
  rw [World.size_alloc] at hsz1
  have k1 : Below w.heap.size w w1 := Below.trans ((Below.refl _ _).alloc (Nat.le_refl _) _) (hb1.mono (by simp))
  have r1 : Rd w1 (· ≠ w.heap.size + 1) A n bs := (HR.out.imp (ok' := (· ≠ w.heap.size + 1)) (fun b hb _ => by omega)).kept k1
  have d1 : Blk w1 w.heap.size 99 (cellsOf .u8 (List.replicate 32 0)) := (Blk.new w _ _).kept hb1
  go_wp2_with fail
  (with_reducible refine (write_any (w.heap.size + 1) [] bs A n c w1 hh1 r1 hn (by simp; omega) (HT.out.keep k1) (by omega)).mono ?_)
  rintro e w2 ⟨rfl, hh2, ho2⟩
  rw [List.nil_append] at hh2
  have hsz2 := ho2.size
  have k2 : Below w.heap.size w w2 := k1.trans (ho2.to_below' (by omega) (by omega))
  have d2 : Blk w2 w.heap.size 99 (cellsOf .u8 (List.replicate 32 0)) := d1.only ho2 (by omega)
  go_wp2_with fail
  (with_reducible refine (sumh_any (w.heap.size + 1) bs w2 hh2 (by rw [HR.out.len]; exact hl) (HT.out.keep k2)).mono ?_)
  rintro e w3 ⟨rfl, hb3⟩
  have d3 := d2.kept hb3
  have k3 : Below w.heap.size w w3 := Below.step k2 hb3
  go_wp2_with (first
    | (refine wpList_store_blk rfl 99 (.tmp 2) (.tmp 9) rfl w.heap.size rfl (cellsOf .u8 (sha bs)) rfl 99 (cellsOf .u8 (List.replicate 32 0)) 32 d3 size_dig (by simp [sha_length]) (by simp) (vals_one _ _) rfl ?_; intro w5 hw5; have HW5 := Lib.hid hw5; clear hw5))
  exact bodyPost_ret (results_cell_row rfl _ _ w.heap.size _ _ _ _ rfl (by rw [HW5.out]; exact d3.row _) Tryd.underlying99 rfl (by rw [size_dig]; simp [sha_length])) rfl ⟨rfl, by rw [HW5.out]; exact below_setRow k3 (Nat.le_refl _) _⟩
theorem zero_half : (Tryd.prog.info? 82).map (·.zero) = some (some (.agg (cellsOf .u8 (List.replicate 16 0)))) := by kernel_rfl
theorem size_half : (Tryd.prog.info? 82).map (·.size) = some 16 := by kernel_rfl
theorem half_any (bs : List Nat) (A : Option Addr) (n c : Nat) (ok : Nat → Prop) (w : World) (hr : Rd w ok A n bs) (hn : n ≤ c) (hl : n ≤ 1099511627776) (hT : Tab w) :
    Calls Tryd.prog 34 #[.slice A n c] w fun e w' => e = .returned (.agg (cellsOf .u8 (half bs))) ∧ Below w.heap.size w w' := by
  have hw := hT.lt
  have HR := Lib.hid hr
  have HT := Lib.hid hT
  clear hr hT
  go_enter Tryd.func34, Tryd.ntmps34
  go_wp2_with (first
    | (with_reducible refine wpList_alloc_zero rfl 82 rfl _ zero_half ?_))
  (with_reducible refine (sum_any bs A n c ok _ (HR.out.kept ((Below.refl _ _).alloc (Nat.le_refl _) _)) hn hl (HT.out.keep ((Below.refl _ _).alloc (Nat.le_refl _) _))).mono ?_)
  rintro e w1 ⟨rfl, hb1⟩
  have hsz1 := hb1.size
  rw [World.size_alloc] at hsz1
  have k1 : Below w.heap.size w w1 := Below.trans ((Below.refl _ _).alloc (Nat.le_refl _) _) (hb1.mono (by simp))
  have d1 : Blk w1 w.heap.size 82 (cellsOf .u8 (List.replicate 16 0)) := (Blk.new w _ _).kept hb1
  have ha := fun W => run_arrayAt (P := Tryd.prog) W 82 5 16 (some ⟨w1.heap.size, 0, none⟩) 16 32 Tryd.underlying82 (by omega)
  go_wp2_with (first
    | (with_reducible refine wpList_alloc_zero rfl 99 rfl _ zero_dig ?_)
    | (refine wpList_load_part rfl 82 (.tmp 7) rfl w1.heap.size 0 rfl 99 (cellsOf .u8 (sha bs)) 16 _ (by rw [HW2.out]; exact (Blk.new w1 _ _).row _) Tryd.underlying82 rfl size_half (by simp [sha_length]) (cellsOf .u8 (half bs)) (by simp [cellsOf, vals, half]) ?_)
    | (refine wpList_store_blk rfl 82 (.tmp 2) (.tmp 8) rfl w.heap.size rfl (cellsOf .u8 (half bs)) rfl 82 (cellsOf .u8 (List.replicate 16 0)) 16 (by rw [HW2.out]; exact (d1.alloc _).rowFar (by omega) _) size_half (by simp [half_length]) (by simp) (vals_one _ _) rfl ?_; intro w5 hw5; have HW5 := Lib.hid hw5; clear hw5)
    | (refine wpList_store_blk rfl 99 (.tmp 3) (.tmp 5) rfl w1.heap.size rfl (cellsOf .u8 (sha bs)) rfl 99 (cellsOf .u8 (List.replicate 32 0)) 32 (Blk.new w1 _ _) size_dig (by simp [sha_length]) (by simp) (vals_one _ _) rfl ?_; intro w2 hw2; have HW2 := Lib.hid hw2; clear hw2))
  have d2 : Blk w2 w.heap.size 82 (cellsOf .u8 (List.replicate 16 0)) := by rw [HW2.out]; exact (d1.alloc _).rowFar (by omega) _
  have k2 : Below w.heap.size w w2 := by rw [HW2.out]; exact below_setRow (k1.alloc (by omega) _) (by omega) _
  exact bodyPost_ret (results_cell_row rfl _ _ w.heap.size _ _ _ _ rfl (by rw [HW5.out]; exact d2.row _) Tryd.underlying82 rfl (by rw [size_half]; simp [half_length])) rfl ⟨rfl, by rw [HW5.out]; exact below_setRow k2 (Nat.le_refl _) _⟩
theorem eq_dig (l m : List Nat) (hl : l.length = 32) (hm : m.length = 32) (W : World) : (Op.equalIn 10000 99 (.agg (cellsOf .u8 l)) (.agg (cellsOf .u8 m))).run Tryd.prog W = .ok (l == m) W :=
  run_equalIn_nums W 9998 l m Tryd.underlying99 Tryd.underlying5 size_u8 hl hm
end Go.Proofs.YtcfojkecmchbdaaDoor
