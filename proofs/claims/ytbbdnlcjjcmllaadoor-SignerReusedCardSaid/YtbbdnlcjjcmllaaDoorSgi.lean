/- Contract of Verify of signatures. -/
import Derived.Test.YtbbdnlcjjcmllaaDoorSgh
namespace Go.Proofs.YtbbdnlcjjcmllaaDoor
open Go Go.RowKit Go.Bul Go.Thg Go.Lin
theorem eq_16 (x y : Nd) (W : World) : (Op.equalIn 10000 23 (.agg (ndC x)) (.agg (ndC y))).run Tryd.prog W = .ok (decide (x = y)) W := by
  have h := run_equalIn_nums W 9998 x.val y.val Tryd.underlying23 Tryd.underlying5 (by kernel_rfl) x.len y.len
  have e : (x.val == y.val) = decide (x = y) := by
    by_cases hxy : x = y
    · subst hxy; simp
    · have : ¬ x.val = y.val := fun h => hxy (Nd.ext' h)
      simp [hxy, this]
  rw [e] at h
  exact h
/-- What Verify returns. -/
def verE (h : Int) (r d : Nd) (leaf : Int) (ch : Ch) (n : Nat) (path : List Nd) : Int :=
  if hE h ≠ 0 then hE h else if sgE leaf n ≠ 0 then sgE leaf n else if (n : Int) = h ∧ rootS leaf.toNat d ch path = r then 0 else 17
set_option maxRecDepth 20000 in
set_option maxHeartbeats 2000000 in
theorem gver_any (h : Int) (r d : Nd) (leaf : Int) (ch : Ch) (A : Option Addr) (n c : Nat) (path : List Nd) (w : World) (hr : NIn w A n path) (hT : Tab w) :
    Calls Tryd.prog 9 #[.agg (pubC h r), .agg (ndC d), .agg (sigC leaf ch A n c)] w fun e w' => e = .returned (.int .i64 (verE h r d leaf ch n path)) ∧ Below w.heap.size w w' := by
  have hM := Mem.start [] w
  have HPS := Lib.hid (pubC_size h r)
  have HP0 := Lib.hid (pubC_0 h r)
  have HPR := Lib.hid (pubC_r h r)
  have HS := Lib.hid (sigC_size leaf ch A n c)
  have HPP := Lib.hid (sigC_p leaf ch A n c)
  have HC := Lib.hid (fun w => pcheck_any h r w)
  unfold verE
  by_cases h1 : hE h = 0
  · rw [if_neg (by simp [h1])]
    rw [h1] at HC
    by_cases h2 : sgE leaf n = 0
    · rw [if_neg (by simp [h2])]
      obtain ⟨k, rfl⟩ : ∃ k : Nat, leaf = (k : Int) := by
        unfold sgE at h2
        split at h2
        · rename_i h3
          exact ⟨leaf.toNat, by omega⟩
        · cases h2
      have HR := Lib.hid (fun w' (hb : Below w.heap.size w w') => groot_yes k ch A n c path d w' (hr.keep hb) h2 (hT.keep hb))
      rw [Int.toNat_natCast]
      generalize rootS k d ch path = Z at HR ⊢
      generalize pubC h r = X at HPS HP0 HPR HC ⊢
      generalize sigC (k : Nat) ch A n c = Y at HS HPP HR ⊢
      have qe := eq_16 Z r
      clear hr hT h1 h2
      by_cases hn : (n : Int) = h
      · subst hn
        have r1 : ((n : Int) != (n : Int)) = false := by simp
        by_cases hz : Z = r
        · rw [if_pos ⟨rfl, hz⟩]
          rw [decide_eq_true hz] at qe
          clear hz
          go_enter Tryd.func9, Tryd.ntmps9
          go_wp2_with (first | ((with_reducible refine at_box ?_); first | (refine slb hM ?_ (hty := row_pub) (hn := HPS.out); clear hM; intro g3 w1 hM) | (refine slb hM ?_ (hty := row_sgn) (hn := HS.out); clear hM; intro g5 w1 hM) | (refine slb hM ?_ (hty := row_a16) (hn := ndC_size _); clear hM; intro g4 w1 hM)) | ((with_reducible refine (HC.out _).mono ?_); rintro e w1 ⟨rfl, hb⟩; replace hM := hM.step hb; clear hb) | ((with_reducible refine (HR.out _ hM.below).mono ?_); rintro e w1 ⟨rfl, hb⟩; replace hM := hM.step hb; clear hb) | ((first | with_reducible refine at_load ?_ | ((with_reducible refine at_load_g ?_ ?_); (· rfl))); first | refine slc hM ?_ (hv := HP0.out) | refine slc hM ?_ (hv := HPP.out) | refine slp hM ?_ (hX := HPR.out) (hty := row_a16) | refine sll hM ?_ (hty := row_pub) | refine sll hM ?_ (hty := row_sgn) | refine sll hM ?_ (hty := row_a16)) | ((first | with_reducible refine at_load ?_ | ((with_reducible refine at_load_g ?_ ?_); (· rfl))); first | refine sll hM ?_ | refine slc hM ?_ | refine slp hM ?_) | ((with_reducible refine at_store ?_); first | (refine slw hM ?_; clear hM; intro wx hM) | (refine sls hM ?_; clear hM; intro wx hM) | (refine slt hM ?_; clear hM; intro wx hM)) | ((with_reducible refine at_alloc ?_); refine slz hM ?_; clear hM; intro gx wx hM) | ((with_reducible refine at_box ?_); refine slb hM ?_; clear hM; intro gx wx hM))
          go_ret
          exact ⟨rfl, hM.below⟩
        · rw [if_neg (by simp [hz])]
          rw [decide_eq_false hz] at qe
          clear hz
          go_enter Tryd.func9, Tryd.ntmps9
          go_wp2_with (first | ((with_reducible refine at_box ?_); first | (refine slb hM ?_ (hty := row_pub) (hn := HPS.out); clear hM; intro g3 w1 hM) | (refine slb hM ?_ (hty := row_sgn) (hn := HS.out); clear hM; intro g5 w1 hM) | (refine slb hM ?_ (hty := row_a16) (hn := ndC_size _); clear hM; intro g4 w1 hM)) | ((with_reducible refine (HC.out _).mono ?_); rintro e w1 ⟨rfl, hb⟩; replace hM := hM.step hb; clear hb) | ((with_reducible refine (HR.out _ hM.below).mono ?_); rintro e w1 ⟨rfl, hb⟩; replace hM := hM.step hb; clear hb) | ((first | with_reducible refine at_load ?_ | ((with_reducible refine at_load_g ?_ ?_); (· rfl))); first | refine slc hM ?_ (hv := HP0.out) | refine slc hM ?_ (hv := HPP.out) | refine slp hM ?_ (hX := HPR.out) (hty := row_a16) | refine sll hM ?_ (hty := row_pub) | refine sll hM ?_ (hty := row_sgn) | refine sll hM ?_ (hty := row_a16)) | ((first | with_reducible refine at_load ?_ | ((with_reducible refine at_load_g ?_ ?_); (· rfl))); first | refine sll hM ?_ | refine slc hM ?_ | refine slp hM ?_) | ((with_reducible refine at_store ?_); first | (refine slw hM ?_; clear hM; intro wx hM) | (refine sls hM ?_; clear hM; intro wx hM) | (refine slt hM ?_; clear hM; intro wx hM)) | ((with_reducible refine at_alloc ?_); refine slz hM ?_; clear hM; intro gx wx hM) | ((with_reducible refine at_box ?_); refine slb hM ?_; clear hM; intro gx wx hM))
          go_ret
          exact ⟨rfl, hM.below⟩
      · rw [if_neg (by simp [hn])]
        have r1 : ((n : Int) != h) = true := by simpa using hn
        clear hn qe
        go_enter Tryd.func9, Tryd.ntmps9
        go_wp2_with (first | ((with_reducible refine at_box ?_); first | (refine slb hM ?_ (hty := row_pub) (hn := HPS.out); clear hM; intro g3 w1 hM) | (refine slb hM ?_ (hty := row_sgn) (hn := HS.out); clear hM; intro g5 w1 hM) | (refine slb hM ?_ (hty := row_a16) (hn := ndC_size _); clear hM; intro g4 w1 hM)) | ((with_reducible refine (HC.out _).mono ?_); rintro e w1 ⟨rfl, hb⟩; replace hM := hM.step hb; clear hb) | ((with_reducible refine (HR.out _ hM.below).mono ?_); rintro e w1 ⟨rfl, hb⟩; replace hM := hM.step hb; clear hb) | ((first | with_reducible refine at_load ?_ | ((with_reducible refine at_load_g ?_ ?_); (· rfl))); first | refine slc hM ?_ (hv := HP0.out) | refine slc hM ?_ (hv := HPP.out) | refine slp hM ?_ (hX := HPR.out) (hty := row_a16) | refine sll hM ?_ (hty := row_pub) | refine sll hM ?_ (hty := row_sgn) | refine sll hM ?_ (hty := row_a16)) | ((first | with_reducible refine at_load ?_ | ((with_reducible refine at_load_g ?_ ?_); (· rfl))); first | refine sll hM ?_ | refine slc hM ?_ | refine slp hM ?_) | ((with_reducible refine at_store ?_); first | (refine slw hM ?_; clear hM; intro wx hM) | (refine sls hM ?_; clear hM; intro wx hM) | (refine slt hM ?_; clear hM; intro wx hM)) | ((with_reducible refine at_alloc ?_); refine slz hM ?_; clear hM; intro gx wx hM) | ((with_reducible refine at_box ?_); refine slb hM ?_; clear hM; intro gx wx hM))
        go_ret
        exact ⟨rfl, hM.below⟩
    · rw [if_pos (by simpa using h2)]
      have HR := Lib.hid (fun w' (_ : Below w.heap.size w w') => groot_no leaf ch A n c d w' h2)
      have q1 : (sgE leaf n != 0) = true := by simpa using h2
      generalize sgE leaf n = e1 at q1 HR ⊢
      generalize pubC h r = X at HPS HP0 HPR HC ⊢
      generalize sigC leaf ch A n c = Y at HS HPP HR ⊢
      clear hr hT h1 h2
      go_enter Tryd.func9, Tryd.ntmps9
      go_wp2_with (first | ((with_reducible refine at_box ?_); first | (refine slb hM ?_ (hty := row_pub) (hn := HPS.out); clear hM; intro g3 w1 hM) | (refine slb hM ?_ (hty := row_sgn) (hn := HS.out); clear hM; intro g5 w1 hM) | (refine slb hM ?_ (hty := row_a16) (hn := ndC_size _); clear hM; intro g4 w1 hM)) | ((with_reducible refine (HC.out _).mono ?_); rintro e w1 ⟨rfl, hb⟩; replace hM := hM.step hb; clear hb) | ((with_reducible refine (HR.out _ hM.below).mono ?_); rintro e w1 ⟨rfl, hb⟩; replace hM := hM.step hb; clear hb) | ((first | with_reducible refine at_load ?_ | ((with_reducible refine at_load_g ?_ ?_); (· rfl))); first | refine slc hM ?_ (hv := HP0.out) | refine slc hM ?_ (hv := HPP.out) | refine slp hM ?_ (hX := HPR.out) (hty := row_a16) | refine sll hM ?_ (hty := row_pub) | refine sll hM ?_ (hty := row_sgn) | refine sll hM ?_ (hty := row_a16)) | ((first | with_reducible refine at_load ?_ | ((with_reducible refine at_load_g ?_ ?_); (· rfl))); first | refine sll hM ?_ | refine slc hM ?_ | refine slp hM ?_) | ((with_reducible refine at_store ?_); first | (refine slw hM ?_; clear hM; intro wx hM) | (refine sls hM ?_; clear hM; intro wx hM) | (refine slt hM ?_; clear hM; intro wx hM)) | ((with_reducible refine at_alloc ?_); refine slz hM ?_; clear hM; intro gx wx hM) | ((with_reducible refine at_box ?_); refine slb hM ?_; clear hM; intro gx wx hM))
      go_ret
      exact ⟨rfl, hM.below⟩
  · rw [if_pos (by simpa using h1)]
    have q1 : (hE h != 0) = true := by simpa using h1
    have HR := Lib.hid (fun w' (_ : Below w.heap.size w w') => (trivial : True))
    generalize hE h = e1 at q1 HC ⊢
    generalize pubC h r = X at HPS HP0 HPR HC ⊢
    generalize sigC leaf ch A n c = Y at HS HPP ⊢
    clear hr hT h1
    go_enter Tryd.func9, Tryd.ntmps9
    go_wp2_with (first | ((with_reducible refine at_box ?_); first | (refine slb hM ?_ (hty := row_pub) (hn := HPS.out); clear hM; intro g3 w1 hM) | (refine slb hM ?_ (hty := row_sgn) (hn := HS.out); clear hM; intro g5 w1 hM) | (refine slb hM ?_ (hty := row_a16) (hn := ndC_size _); clear hM; intro g4 w1 hM)) | ((with_reducible refine (HC.out _).mono ?_); rintro e w1 ⟨rfl, hb⟩; replace hM := hM.step hb; clear hb) | ((with_reducible refine (HR.out _ hM.below).mono ?_); rintro e w1 ⟨rfl, hb⟩; replace hM := hM.step hb; clear hb) | ((first | with_reducible refine at_load ?_ | ((with_reducible refine at_load_g ?_ ?_); (· rfl))); first | refine slc hM ?_ (hv := HP0.out) | refine slc hM ?_ (hv := HPP.out) | refine slp hM ?_ (hX := HPR.out) (hty := row_a16) | refine sll hM ?_ (hty := row_pub) | refine sll hM ?_ (hty := row_sgn) | refine sll hM ?_ (hty := row_a16)) | ((first | with_reducible refine at_load ?_ | ((with_reducible refine at_load_g ?_ ?_); (· rfl))); first | refine sll hM ?_ | refine slc hM ?_ | refine slp hM ?_) | ((with_reducible refine at_store ?_); first | (refine slw hM ?_; clear hM; intro wx hM) | (refine sls hM ?_; clear hM; intro wx hM) | (refine slt hM ?_; clear hM; intro wx hM)) | ((with_reducible refine at_alloc ?_); refine slz hM ?_; clear hM; intro gx wx hM) | ((with_reducible refine at_box ?_); refine slb hM ?_; clear hM; intro gx wx hM))
    go_ret
    exact ⟨rfl, hM.below⟩
end Go.Proofs.YtbbdnlcjjcmllaaDoor
