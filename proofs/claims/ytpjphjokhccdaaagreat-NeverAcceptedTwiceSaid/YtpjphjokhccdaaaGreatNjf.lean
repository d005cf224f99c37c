/- Seat n: expiry: checkArticles finds no error. -/
import Derived.Test.YtpjphjokhccdaaaGreatNje
namespace Go.Lin
open Go Go.Bul Go.Thg
/-- A set of ids, as a map. -/
def mpS (l : List Nat) : Nat → Option Value := fun j => if j ∈ l then some (.bool true) else none
theorem mpS_nil : mpS [] = fun _ => none := by funext j; simp [mpS]
theorem mpS_put (l : List Nat) (j : Nat) : updM (mpS l) j (some (.bool true)) = mpS (l ++ [j]) := by
  funext i
  unfold updM mpS
  by_cases h : i = j
  · subst h; simp
  · simp [h]
end Go.Lin
namespace Go.Proofs.YtpjphjokhccdaaaGreat
open Go Go.RowKit Go.Bul Go.Thg Go.Lin Go.Maps
/-- An article as this law makes it. -/
structure ArtOk (R : List Thing) (x : El) : Prop where
  j : x.1 < 11
  ex : ∃ d a gg b k, x.2 = artTl d a gg b k ∧ (0 ≤ d ∧ d ≤ 1000000) ∧ (0 ≤ a ∧ a ≤ 1000000) ∧ (0 ≤ b ∧ b ≤ 100) ∧ (0 ≤ k ∧ k ≤ 5) ∧ grpT gg ∈ R
set_option maxRecDepth 20000 in
theorem eMinute_yes (n : Int) (w : World) (h0 : 0 ≤ n) (h1 : n ≤ 1000000) : Calls Tryz.prog 26 #[.int .i64 n] w fun e w' => e = .returned (.bool true) ∧ w = w' := by
  have c1 : decide (0 ≤ n) = true := decide_eq_true h0
  have c2 : decide (n ≤ 105190559) = true := decide_eq_true (by omega)
  clear h0 h1
  go_enter Tryz.func26, Tryz.ntmps26
  go_wp2_with fail
  go_ret
  exact ⟨rfl, rfl⟩
section
variable {w w0 : World} {G : List Nat} {L : List Ent} {R : List Thing} {F : Thing → List Thing}
set_option maxRecDepth 20000 in
set_option maxHeartbeats 4000000 in
theorem chkArts_any (A : Option Addr) (n c : Nat) (l : List El) (hM : Mem G w0 L R w) (hl : l.length ≤ 11) (hok : ∀ x ∈ l, ArtOk R x) (hnd : (l.map (·.1)).Nodup) (hT : elT 51 7 (.slice A n c) l ∈ R) :
    Calls Tryz.prog 27 #[.slice A n c] w fun e w' => e = .returned (.int .i64 0) ∧ Mem G w0 L R w' := by
  have hn := (elT_len (hM.thing _ hT)).1
  have HN := Lib.hid hn
  have HT := Lib.hid hT
  have HOK := Lib.hid hok
  have HND := Lib.hid hnd
  have HMI := Lib.hid (fun n w h0 h1 => eMinute_yes n w h0 h1)
  have n11 : n ≤ 11 := by omega
  clear hok hnd hT hl hn
  go_enter Tryz.func27, Tryz.ntmps27
  go_wp2_with (first | ((with_reducible refine at_mmake ?_); refine nmm hM ?_; clear hM; intro bf w1 hM) | ((first | with_reducible refine at_load ?_ | ((with_reducible refine at_load_g ?_ ?_); (· rfl))); first | refine nll hM ?_ | refine nlc hM ?_ | refine nlp hM ?_) | ((with_reducible refine at_store ?_); first | (refine nlw hM ?_; clear hM; intro wx hM) | (refine nls hM ?_; clear hM; intro wx hM) | (refine nlt hM ?_; clear hM; intro wx hM)) | ((with_reducible refine at_alloc ?_); refine nlz hM ?_; clear hM; intro gx wx hM) | ((with_reducible refine at_box ?_); first | (refine nlb hM ?_; clear hM; intro gx wx hM) | (refine nlx hM ?_; clear hM; intro gx wx hM)))
  have M0 := Lib.hid hM
  clear hM
  go_loopw [9] (fun i wr => ∃ k : Nat, k ≤ n ∧ i = .int .i64 (k : Nat) ∧ Mem G w0 L (mapT bf (mpS ((l.take k).map (·.1))) :: R) wr) (fun i _ => n - (intOf i).toNat)
  case atStart => exact ⟨0, Nat.zero_le _, rfl, by rw [List.take_zero, List.map_nil, mpS_nil]; exact M0.out⟩
  case round =>
    clear M0
    obtain ⟨k, hk, rfl, hM⟩ := hrel
    have k0 : (0 : Int) ≤ (k : Int) := Int.natCast_nonneg _
    have k1 : (k : Int) ≤ 11 := by omega
    by_cases hlt : k < n
    · have hlt' : (k : Int) < (n : Int) := by omega
      have hkl : k < l.length := by have := HN.out; omega
      obtain ⟨g, off, rfl, _, hcell⟩ := elT_at (hM.thing _ (List.Mem.tail _ HT.out)) k hkl
      have HX := Lib.hid (hcell k hkl)
      have HXI := List.getElem_mem hkl
      obtain ⟨hj, d, a, gg, b, kk, htl, ⟨d0, d1⟩, ⟨a0, a1⟩, ⟨b0, b1⟩, ⟨q0, q1⟩, _⟩ := HOK.out _ HXI
      have HTK := Lib.hid (show (l.take (k + 1)).map (·.1) = (l.take k).map (·.1) ++ [(l[k]).1] by rw [List.take_succ_eq_append_getElem hkl, List.map_append]; rfl)
      have HNI := Lib.hid (show (mpS ((l.take k).map (·.1)) (l[k]).1).getD (.bool false) = .bool false by
        have h1 := HND.out
        have e : l = l.take k ++ (l[k] :: l.drop (k + 1)) := by rw [List.getElem_cons_drop, List.take_append_drop]
        rw [e, List.map_append, List.nodup_append] at h1
        unfold mpS
        rw [if_neg fun hin => h1.2.2 _ hin _ (List.mem_map.2 ⟨_, List.Mem.head _, rfl⟩) rfl]
        rfl)
      have HJ := Lib.hid hj
      have e : elC l[k] = stC (l[k]).1 (artTl d a gg b kk) := by unfold elC; rw [htl]
      rw [e] at HX
      clear HXI htl hj e hcell
      generalize (l[k]).1 = j at HX HTK HNI HJ
      clear hkl
      have x1 : decide (b < 0) = false := decide_eq_false (by omega)
      have x2 : decide (1099511627776 < b) = false := decide_eq_false (by omega)
      have x3 : decide (kk < 0) = false := decide_eq_false (by omega)
      have x4 : decide (5 < kk) = false := decide_eq_false (by omega)
      have HA := Lib.hid (fun w => HMI.out a w a0 a1)
      have HD := Lib.hid (fun w => HMI.out d w d0 d1)
      clear a0 a1 d0 d1 b0 b1 q0 q1
      go_wp2_with (first | ((with_reducible refine at_load ?_); refine nlr HX.out ?_) | ((with_reducible refine (HA.out _).mono ?_); rintro e w1 ⟨rfl, rfl⟩) | ((with_reducible refine (HD.out _).mono ?_); rintro e w1 ⟨rfl, rfl⟩) | ((with_reducible refine at_mlook ?_); refine wpList_pure rfl (yml mty_bool hM HJ.out HNI.out) ?_) | ((with_reducible refine at_mput ?_); refine nmu (v := .bool true) hM mty_bool HJ.out ?_; clear hM; intro wx hM) | ((first | with_reducible refine at_load ?_ | ((with_reducible refine at_load_g ?_ ?_); (· rfl))); first | refine nll hM ?_ | refine nlc hM ?_ | refine nlp hM ?_) | ((with_reducible refine at_store ?_); first | (refine nlw hM ?_; clear hM; intro wx hM) | (refine nls hM ?_; clear hM; intro wx hM) | (refine nlt hM ?_; clear hM; intro wx hM)) | ((with_reducible refine at_alloc ?_); refine nlz hM ?_; clear hM; intro gx wx hM) | ((with_reducible refine at_box ?_); first | (refine nlb hM ?_; clear hM; intro gx wx hM) | (refine nlx hM ?_; clear hM; intro gx wx hM)))
      exact ⟨⟨k + 1, by omega, by go_num, by rw [HTK.out, ← mpS_put]; exact hM.subL (List.sublist_cons_self _ _)⟩, by simp [intOf]; omega⟩
    · obtain rfl : k = n := by omega
      go_wp2_with (first | ((first | with_reducible refine at_load ?_ | ((with_reducible refine at_load_g ?_ ?_); (· rfl))); first | refine nll hM ?_ | refine nlc hM ?_ | refine nlp hM ?_) | ((with_reducible refine at_store ?_); first | (refine nlw hM ?_; clear hM; intro wx hM) | (refine nls hM ?_; clear hM; intro wx hM) | (refine nlt hM ?_; clear hM; intro wx hM)) | ((with_reducible refine at_alloc ?_); refine nlz hM ?_; clear hM; intro gx wx hM) | ((with_reducible refine at_box ?_); first | (refine nlb hM ?_; clear hM; intro gx wx hM) | (refine nlx hM ?_; clear hM; intro gx wx hM)))
      go_ret
      exact ⟨rfl, hM.subR (List.sublist_cons_self _ _)⟩
end
end Go.Proofs.YtpjphjokhccdaaaGreat
