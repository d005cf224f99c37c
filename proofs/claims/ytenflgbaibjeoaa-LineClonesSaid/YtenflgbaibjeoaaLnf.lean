/- Contract of line.take. -/
import Derived.Test.YtenflgbaibjeoaaLne
namespace Go.Proofs.Ytenflgbaibjeoaa
open Go Go.RowKit Go.Bul Go.Thg Go.Lin
set_option maxRecDepth 20000 in
set_option maxHeartbeats 1000000 in
/-- What is taken, and what is left. -/
theorem take_nat (G : List Nat) (w0 w : World) (L : List Ent) (R : List Thing) (p off m : Nat) (t : TypeId) (cs : Array Value) (v : Value) (xs : List Nat) (most : Int) (k : Nat) (hM : Mem G w0 (⟨p, t, m, cs⟩ :: L) (bT v xs :: R) w) (hv : cs[off]? = some v) (hoff : off < m) (h63 : xs.length ≤ 1000000000)
    (hk : (most < (xs.length : Int) ∧ most = (k : Int)) ∨ ((xs.length : Int) ≤ most ∧ k = xs.length)) :
    Calls Try.prog 45 #[.pointer (some ⟨p, off, none⟩), .int .i64 most] w fun e w' => ∃ b v', e = .returned b ∧ Mem G w0 (⟨p, t, m, cs.setIfInBounds off v'⟩ :: L) (bT b (xs.take k) :: bT v' (xs.drop k) :: R) w' := by
  have ht := hM.thing _ (List.Mem.head _)
  obtain ⟨A, c, rfl, hlc⟩ := bT_form ht
  obtain ⟨n, hn⟩ : ∃ n, n = xs.length := ⟨_, rfl⟩
  rw [← hn] at hM hv ht hlc h63 hk
  have HA0 := Lib.hid (adv_zero (by rw [hn] at ht; exact ht) : advA A 0 c 1 = A)
  have hkn : k ≤ n := by omega
  have HKL : Hid (k = (xs.take k).length) := Lib.hid (by rw [List.length_take]; omega)
  have HRT : Hid (∀ w, (bT (.slice A n c) xs).P w → Reads w 1 A k (vals .u8 (xs.take k))) := Lib.hid fun w h => by
    have := (bT_reads h).1.take k hkn
    rwa [show (vals .u8 xs).take (k * 1) = vals .u8 (xs.take k) by simp [vals, List.map_take]] at this
  have HV := Lib.hid hv
  have hkc : k ≤ c := by omega
  have hnc : n ≤ c := by omega
  clear hv hn ht
  rcases hk with ⟨h1, rfl⟩ | ⟨h1, rfl⟩
  · go_enter Try.func45, Try.ntmps45
    go_wp2_with (first | ((with_reducible refine at_load ?_); refine lcx HV.out hM ?_) | ((with_reducible refine at_slice ?_); refine lsl_hi Try.underlying82 size_u8 hkc HA0.out ?_) | ((first | with_reducible refine at_load ?_ | ((with_reducible refine at_load_g ?_ ?_); (· rfl))); first | refine lc hM ?_ | refine ll hM ?_ | refine lp hM ?_) | ((with_reducible refine at_store ?_); first | (refine ls hM ?_; clear hM; intro wx hM) | (refine lw hM ?_; clear hM; intro wx hM) | (refine lt hM ?_; clear hM; intro wx hM)) | ((with_reducible refine at_alloc ?_); refine lz hM ?_; clear hM; intro gx wx hM) | ((with_reducible refine at_box ?_); refine lb hM ?_; clear hM; intro gx wx hM))
    (refine (clone_any A k c (xs.take k) _ (HRT.out _ (hM.thing _ (List.Mem.head _))) HKL.out (by omega)).mono ?_)
    rintro e w1 ⟨A', c', rfl, hb1⟩
    have hM1 := hM.newThing hb1
    clear hM
    have hM := hM1
    clear hM1 hb1
    go_wp2_with (first | ((with_reducible refine at_load ?_); refine lcx HV.out hM ?_) | ((with_reducible refine at_slice ?_); refine lsl_lo Try.underlying82 size_u8 hkn hnc ?_) | ((with_reducible refine at_store ?_); refine lsx hoff hM ?_; clear hM; intro wx hM) | ((first | with_reducible refine at_load ?_ | ((with_reducible refine at_load_g ?_ ?_); (· rfl))); first | refine lc hM ?_ | refine ll hM ?_ | refine lp hM ?_) | ((with_reducible refine at_store ?_); first | (refine ls hM ?_; clear hM; intro wx hM) | (refine lw hM ?_; clear hM; intro wx hM) | (refine lt hM ?_; clear hM; intro wx hM)) | ((with_reducible refine at_alloc ?_); refine lz hM ?_; clear hM; intro gx wx hM) | ((with_reducible refine at_box ?_); refine lb hM ?_; clear hM; intro gx wx hM))
    go_ret
    refine ⟨.slice A' k c', .slice (advA A k c 1) (n - k) (c - k), rfl, ?_⟩
    have h2 := hM.turn (UpdR.tail _ (UpdR.head _ _)) (bT_rest (hM.thing _ (List.Mem.tail _ (List.Mem.head _))) k hkn)
    exact (h2)
  · by_cases h2 : (k : Int) < most
    · go_enter Try.func45, Try.ntmps45
      go_wp2_with (first | ((with_reducible refine at_load ?_); refine lcx HV.out hM ?_) | ((with_reducible refine at_slice ?_); refine lsl_hi Try.underlying82 size_u8 hkc HA0.out ?_) | ((first | with_reducible refine at_load ?_ | ((with_reducible refine at_load_g ?_ ?_); (· rfl))); first | refine lc hM ?_ | refine ll hM ?_ | refine lp hM ?_) | ((with_reducible refine at_store ?_); first | (refine ls hM ?_; clear hM; intro wx hM) | (refine lw hM ?_; clear hM; intro wx hM) | (refine lt hM ?_; clear hM; intro wx hM)) | ((with_reducible refine at_alloc ?_); refine lz hM ?_; clear hM; intro gx wx hM) | ((with_reducible refine at_box ?_); refine lb hM ?_; clear hM; intro gx wx hM))
      (refine (clone_any A k c (xs.take k) _ (HRT.out _ (hM.thing _ (List.Mem.head _))) HKL.out (by omega)).mono ?_)
      rintro e w1 ⟨A', c', rfl, hb1⟩
      have hM1 := hM.newThing hb1
      clear hM
      have hM := hM1
      clear hM1 hb1
      go_wp2_with (first | ((with_reducible refine at_load ?_); refine lcx HV.out hM ?_) | ((with_reducible refine at_slice ?_); refine lsl_lo Try.underlying82 size_u8 hkn hnc ?_) | ((with_reducible refine at_store ?_); refine lsx hoff hM ?_; clear hM; intro wx hM) | ((first | with_reducible refine at_load ?_ | ((with_reducible refine at_load_g ?_ ?_); (· rfl))); first | refine lc hM ?_ | refine ll hM ?_ | refine lp hM ?_) | ((with_reducible refine at_store ?_); first | (refine ls hM ?_; clear hM; intro wx hM) | (refine lw hM ?_; clear hM; intro wx hM) | (refine lt hM ?_; clear hM; intro wx hM)) | ((with_reducible refine at_alloc ?_); refine lz hM ?_; clear hM; intro gx wx hM) | ((with_reducible refine at_box ?_); refine lb hM ?_; clear hM; intro gx wx hM))
      go_ret
      refine ⟨.slice A' k c', .slice (advA A k c 1) 0 (c - k), rfl, ?_⟩
      have h2 := hM.turn (UpdR.tail _ (UpdR.head _ _)) (bT_rest (hM.thing _ (List.Mem.tail _ (List.Mem.head _))) k hkn)
      rw [Nat.sub_self] at h2
      exact h2
    · have h3 : most = (k : Int) := by omega
      subst h3
      go_enter Try.func45, Try.ntmps45
      go_wp2_with (first | ((with_reducible refine at_load ?_); refine lcx HV.out hM ?_) | ((with_reducible refine at_slice ?_); refine lsl_hi Try.underlying82 size_u8 hkc HA0.out ?_) | ((first | with_reducible refine at_load ?_ | ((with_reducible refine at_load_g ?_ ?_); (· rfl))); first | refine lc hM ?_ | refine ll hM ?_ | refine lp hM ?_) | ((with_reducible refine at_store ?_); first | (refine ls hM ?_; clear hM; intro wx hM) | (refine lw hM ?_; clear hM; intro wx hM) | (refine lt hM ?_; clear hM; intro wx hM)) | ((with_reducible refine at_alloc ?_); refine lz hM ?_; clear hM; intro gx wx hM) | ((with_reducible refine at_box ?_); refine lb hM ?_; clear hM; intro gx wx hM))
      (refine (clone_any A k c (xs.take k) _ (HRT.out _ (hM.thing _ (List.Mem.head _))) HKL.out (by omega)).mono ?_)
      rintro e w1 ⟨A', c', rfl, hb1⟩
      have hM1 := hM.newThing hb1
      clear hM
      have hM := hM1
      clear hM1 hb1
      go_wp2_with (first | ((with_reducible refine at_load ?_); refine lcx HV.out hM ?_) | ((with_reducible refine at_slice ?_); refine lsl_lo Try.underlying82 size_u8 hkn hnc ?_) | ((with_reducible refine at_store ?_); refine lsx hoff hM ?_; clear hM; intro wx hM) | ((first | with_reducible refine at_load ?_ | ((with_reducible refine at_load_g ?_ ?_); (· rfl))); first | refine lc hM ?_ | refine ll hM ?_ | refine lp hM ?_) | ((with_reducible refine at_store ?_); first | (refine ls hM ?_; clear hM; intro wx hM) | (refine lw hM ?_; clear hM; intro wx hM) | (refine lt hM ?_; clear hM; intro wx hM)) | ((with_reducible refine at_alloc ?_); refine lz hM ?_; clear hM; intro gx wx hM) | ((with_reducible refine at_box ?_); refine lb hM ?_; clear hM; intro gx wx hM))
      go_ret
      refine ⟨.slice A' k c', .slice (advA A k c 1) 0 (c - k), rfl, ?_⟩
      have h2 := hM.turn (UpdR.tail _ (UpdR.head _ _)) (bT_rest (hM.thing _ (List.Mem.tail _ (List.Mem.head _))) k hkn)
      rw [Nat.sub_self] at h2
      exact h2
end Go.Proofs.Ytenflgbaibjeoaa
