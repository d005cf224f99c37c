/- MerkleNodes: the walk. -/
import Derived.Test.YtcfojkecmchbdaaDoorMnm
import Derived.Test.YtcfojkecmchbdaaDoorMnl
namespace Go.Proofs.YtcfojkecmchbdaaDoor
open Go Go.RowKit Go.Bul Go.Thg Go.Lin
set_option maxRecDepth 20000 in
set_option maxHeartbeats 4000000 in
theorem nodes_any (z : Int) (A : Option Addr) (n c : Nat) (bs : List Nat) (x y : Nd) (w : World) (hr : Reads w 1 A n (vals .u8 bs)) (hb : Bytes bs) (hn : n ≤ 9223372036854775807) (hT : Tab w) :
    Calls Tryd.prog 3 #[.int .i64 z, .slice A n c, .agg (ndC2 x y)] w fun e w' => e = .returned (.bool true) ∧ Below w.heap.size w w' := by
  have hM := Mem.start [] w
  have HT := Lib.hid hT
  have HK := Lib.hid (fun w' (hb : Below w.heap.size w w') => known_any w' (hT.keep hb))
  by_cases h300 : 300 < n
  · have c1 : decide ((300 : Int) < (n : Int)) = true := decide_eq_true (by omega)
    have c2 : decide (300 < n) = true := decide_eq_true h300
    clear hr hb hn hT h300
    go_enter Tryd.func3, Tryd.ntmps3
    go_wp2_with (first | ((with_reducible refine (HK.out _ hM.below).mono ?_); rintro e w1 ⟨rfl, hb⟩; replace hM := hM.step hb; clear hb) | ((first | with_reducible refine at_load ?_ | ((with_reducible refine at_load_g ?_ ?_); (· rfl))); first | refine ll hM ?_ | refine lc hM ?_ | refine lp hM ?_) | ((with_reducible refine at_store ?_); first | (refine lw hM ?_; clear hM; intro wx hM) | (refine ls hM ?_; clear hM; intro wx hM) | (refine lt hM ?_; clear hM; intro wx hM)) | ((with_reducible refine at_alloc ?_); refine lz hM ?_; clear hM; intro gx wx hM) | ((with_reducible refine at_box ?_); refine lb hM ?_; clear hM; intro gx wx hM))
    go_ret
    exact ⟨rfl, hM.below⟩
  · have c1 : decide ((300 : Int) < (n : Int)) = false := decide_eq_false (by omega)
    have c2 : decide (300 < n) = false := decide_eq_false h300
    have H1 := Lib.hid (fun w' (hk : Below w.heap.size w w') => leaf_any z A n c bs w' (hr.keep hk) hb (by omega) (hT.keep hk))
    have H2 := Lib.hid (fun w' (hk : Below w.heap.size w w') => rleaf_any z A n c bs w' (hr.keep hk) hb (by omega))
    have H3 := Lib.hid (fun w' (hk : Below w.heap.size w w') => join_any z x y w' (hT.keep hk))
    have H4 := Lib.hid (fun w' => rjoin_any z x y w')
    generalize leafN z bs = P at H1 H2
    generalize joinN z x y = Q2 at H3 H4
    have q1 := eq_nd P P
    have q2 := eq_nd Q2 Q2
    rw [decide_eq_true rfl] at q1 q2
    clear hr hb hn hT h300
    go_enter Tryd.func3, Tryd.ntmps3
    go_upto_region 3 with (first | ((with_reducible refine (HK.out _ hM.below).mono ?_); rintro e w1 ⟨rfl, hb⟩; replace hM := hM.step hb; clear hb) | ((first | with_reducible refine at_load ?_ | ((with_reducible refine at_load_g ?_ ?_); (· rfl))); first | refine ll hM ?_ | refine lc hM ?_ | refine lp hM ?_) | ((with_reducible refine at_store ?_); first | (refine lw hM ?_; clear hM; intro wx hM) | (refine ls hM ?_; clear hM; intro wx hM) | (refine lt hM ?_; clear hM; intro wx hM)) | ((with_reducible refine at_alloc ?_); refine lz hM ?_; clear hM; intro gx wx hM) | ((with_reducible refine at_box ?_); refine lb hM ?_; clear hM; intro gx wx hM))
    refine Go.Bul.wp_region_class (Mem _ w _ _) (by kernel_rfl) (by kernel_rfl) hM.drew ?_
    repeat ((with_reducible refine wpQuiet_step (fun K hK => ?_)); (first | ((first | ((with_reducible refine quiet_some ?_ ?_); (· rfl)) | ((with_reducible refine quiet_wanted ?_ ?_); (· rfl))); apply Exists.intro; refine ⟨fun w' hM' => ?_, ?_⟩; (· first | (go_simp; rfl) | exact qc hM' | first | exact qp hM' (hX := ext_nd0 x y) | exact qp hM' (hX := ext_nd1 x y) | (go_simp; with_reducible refine at_calls ?_; first | exact quiet_mem_call hM' (H1.out _ hM'.below) | exact quiet_mem_call hM' (H2.out _ hM'.below) | exact quiet_mem_call hM' (H3.out _ hM'.below) | exact quiet_mem_call hM' (H4.out _)) | exact ql hM' | exact qp hM')) | ((with_reducible refine quiet_unwanted ?_ ?_); (· rfl))); go_simp; (with_reducible refine hK _ ?_); clear hK K)
    refine wpQuiet_nil ?_
    intro wx hM
    go_wp2_with fail
    go_ret
    exact ⟨rfl, hM.below⟩
end Go.Proofs.YtcfojkecmchbdaaDoor
