/- Contract of merkle.Root. -/
import Derived.Test.YtcfojkecmchbdaaDoorMai
namespace Go.Lin
open Go
/-- The root of 2^h leaves; the root of any leaves. -/
def rootH (leaves : List Nd) (h : Nat) : Nd := (lvl leaves h).headD nd0
def rootN (leaves : List Nd) : Nd := if chkE leaves.length = 0 then rootH leaves (Nat.log2 leaves.length) else nd0
end Go.Lin
namespace Go.Proofs.YtcfojkecmchbdaaDoor
open Go Go.RowKit Go.Bul Go.Thg Go.Lin
set_option maxRecDepth 20000 in
set_option maxHeartbeats 4000000 in
theorem root_yes (A : Option Addr) (n c h : Nat) (leaves : List Nd) (w : World) (hr : NIn w A n leaves) (hn : leaves.length = 2 ^ h) (hh : h ≤ 10) (hT : Tab w) :
    Calls Tryd.prog 16 #[.slice A n c] w fun e w' => e = .returned (.tuple #[.agg (ndC (rootH leaves h)), .int .i64 0]) ∧ Below w.heap.size w w' := by
  obtain ⟨Z, hZ⟩ : ∃ Z, rootH leaves h = Z := ⟨_, rfl⟩
  rw [hZ]
  have HZ := Lib.hid hZ
  clear hZ
  have hM := Mem.start [] w
  have hnl := hr.len
  have hpw : 2 ^ h ≤ 1024 := by
    have : 2 ^ h ≤ 2 ^ 10 := Nat.pow_le_pow_right (by decide) hh
    omega
  have hp2 : pow2 n = true := by
    unfold pow2
    refine List.any_eq_true.2 ⟨h, List.mem_range.2 (by omega), ?_⟩
    rw [hnl, hn]
    simp
  have hp0 : 0 < 2 ^ h := Nat.pow_pos (by decide)
  have hce : chkE n = 0 := by unfold chkE; rw [if_neg (by omega), if_neg (by omega), if_pos hp2]
  have HC := Lib.hid (fun w => check_any A n c w (by omega))
  rw [hce] at HC
  have HG := Lib.hid (fun w' (hb : Below w.heap.size w w') (hT : Tab w') => grow_any A n c h leaves w' (hr.keep hb) hn hh hT)
  have HT := Lib.hid hT
  have hl1 : (lvl leaves h).length = 1 := by rw [lvl_length, hn]; exact Nat.div_self hp0
  have HL1 := Lib.hid hl1
  clear hr hT hnl hpw hp2 hp0 hce hn hl1
  go_enter Tryd.func16, Tryd.ntmps16
  go_upto_region 5 with (first | ((with_reducible refine (HC.out _).mono ?_); rintro e w1 ⟨rfl, rfl⟩) | ((with_reducible refine (HG.out _ hM.below (HT.out.keep hM.below)).mono ?_); rintro e w1 ⟨B, d, vs, C, e', rfl, hvl, hG⟩; replace hM := hM.frame hG; clear hG) | ((first | with_reducible refine at_load ?_ | ((with_reducible refine at_load_g ?_ ?_); (· rfl))); first | refine lc hM ?_ | refine ll hM ?_ | refine lp hM ?_) | ((with_reducible refine at_store ?_); first | (refine ls hM ?_; clear hM; intro wx hM) | (refine lw hM ?_; clear hM; intro wx hM) | (refine lt hM ?_; clear hM; intro wx hM)) | ((with_reducible refine at_alloc ?_); refine lz hM ?_; clear hM; intro gx wx hM) | ((with_reducible refine at_box ?_); refine lb hM ?_; clear hM; intro gx wx hM))
  obtain ⟨gt, ot, rfl, hc⟩ := slT_cell (hM.thing (slT (.slice B (h + 1) d) (vs ++ [Value.slice C 1 e'])) (List.Mem.head _)) h (by simp; omega)
  have hce : (vs ++ [Value.slice C 1 e'])[h]'(by simp; omega) = Value.slice C 1 e' := by
    rw [List.getElem_append_right (by omega)]
    simp
  rw [hce] at hc
  have HCC := Lib.hid hc
  have hni := ndT_in (hM.thing (ndT (.slice C 1 e') (lvl leaves h)) (List.Mem.tail _ (List.Mem.head _)))
  obtain ⟨gl, ol, rfl, _⟩ := hni.row 0 (by have := HL1.out; omega)
  have hcell := NIn.cell hni 0 (by have := HL1.out; omega)
  have hroot : rootH leaves h = (lvl leaves h)[0]'(by have := HL1.out; omega) := by
    unfold rootH
    obtain ⟨x, hx⟩ := List.length_eq_one_iff.1 HL1.out
    simp [hx]
  rw [← hroot, HZ.out] at hcell
  have HN := Lib.hid hcell
  have q0 : (0 : Int) ≤ (h : Int) := Int.natCast_nonneg _
  have w5 : IntKind.i64.wrap ((h : Int) + 1 - 1) = (h : Int) := by rw [show (h : Int) + 1 - 1 = (h : Int) by omega]; exact IntWalk.i64_in (h : Int) ⟨by omega, by omega⟩
  have w6 : IntKind.i64.wrap (h : Int) = (h : Int) := IntWalk.i64_in (h : Int) ⟨by omega, by omega⟩
  clear hc hce hni hcell hroot
  go_wp2_with (first | ((with_reducible refine at_load ?_); first | refine lo HCC.out ?_ | refine lr HN.out ?_) | ((first | with_reducible refine at_load ?_ | ((with_reducible refine at_load_g ?_ ?_); (· rfl))); first | refine lc hM ?_ | refine ll hM ?_ | refine lp hM ?_) | ((with_reducible refine at_store ?_); first | (refine ls hM ?_; clear hM; intro wx hM) | (refine lw hM ?_; clear hM; intro wx hM) | (refine lt hM ?_; clear hM; intro wx hM)) | ((with_reducible refine at_alloc ?_); refine lz hM ?_; clear hM; intro gx wx hM) | ((with_reducible refine at_box ?_); refine lb hM ?_; clear hM; intro gx wx hM))
  exact bodyPost_ret (results_mem_cell_tmp hM rfl (by rfl) (by repeat (first | exact List.Mem.head _ | apply List.Mem.tail)) (by first | exact row_nd | exact row_n | exact row_half | exact row_a32 | exact row_nd2 | exact row_n2 | exact row_two | exact row_claim | exact row_bld | exact row_bnds) (by rfl)) rfl ⟨rfl, hM.below⟩
end Go.Proofs.YtcfojkecmchbdaaDoor
