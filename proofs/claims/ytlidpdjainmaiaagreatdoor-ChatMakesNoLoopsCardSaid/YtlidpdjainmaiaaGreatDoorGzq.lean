/- Seat c: Nick at "J. R. Doe". -/
import Derived.Test.YtlidpdjainmaiaaGreatDoorGzp
namespace Go.Cht
open Go Go.Bul
/-- The bytes that a nickname keeps. -/
def nkStep (acc : List Nat) (c : Nat) : List Nat := if ltrB c || (decide (0 < acc.length) && nkB c) then acc ++ [c] else acc
def nkAcc (l : List Nat) : List Nat := l.foldl nkStep []
theorem nkAcc_snoc (l : List Nat) (c : Nat) : nkAcc (l ++ [c]) = nkStep (nkAcc l) c := by simp [nkAcc]
theorem nkFold_len : ∀ (l acc : List Nat), (l.foldl nkStep acc).length ≤ acc.length + l.length
  | [], acc => Nat.le_refl _
  | c :: l, acc => by
    have h := nkFold_len l (nkStep acc c)
    have h2 : (nkStep acc c).length ≤ acc.length + 1 := by
      unfold nkStep
      split
      · rw [List.length_append]; exact Nat.le_refl _
      · omega
    rw [List.foldl_cons, List.length_cons]
    omega
theorem nkAcc_len (l : List Nat) : (nkAcc l).length ≤ l.length := by
  have := nkFold_len l []
  simpa [nkAcc] using this
abbrev joeB : ByteArray := ⟨#[74, 46, 32, 82, 46, 32, 68, 111, 101]⟩
abbrev jrB : ByteArray := ⟨#[106, 114, 100, 111, 101]⟩
end Go.Cht
namespace Go.Proofs.YtlidpdjainmaiaaGreatDoor
open Go Go.RowKit Go.Bul Go.Thg Go.Lin Go.Cht Go.Maps
section
variable {w w0 : World} {L : List Ent} {R : List Thing}
set_option maxRecDepth 20000 in
set_option maxHeartbeats 4000000 in
theorem nick_any (g : Nat) (hM : Mem [] w0 L R w) (hL : ⟨g, 9, 1, #[.string jrB]⟩ ∈ L) (hP : Pow w0) : Calls Tryz.prog 30 #[.string joeB, .slice (some ⟨g, 0, none⟩) 1 1] w fun e w' => e = .returned (.tuple #[.string ⟨#[74, 82, 68, 111, 101, 50]⟩, .int .i64 0]) ∧ Mem [] w0 L R w' := by
  have hM1 := Mem.gNil hM 5 1 byF
  clear hM
  have M0 := Lib.hid hM1
  clear hM1
  have HPW := Lib.hid (fun w' hb => hP.keep (w' := w') hb)
  have HLO := Lib.hid (show ∀ w, Calls Tryz.prog 40 #[.string jrB] w fun e w' => e = .returned (.string jrB) ∧ Below w.heap.size w w' from fun w => by
    have h := lower_any jrB w (by decide)
    rw [show bstr (lowL (nums jrB)) = jrB by decide +kernel] at h
    exact h)
  have HLU := Lib.hid (show ∀ w, Calls Tryz.prog 40 #[.string (bstr [74, 82, 68, 111, 101])] w fun e w' => e = .returned (.string jrB) ∧ Below w.heap.size w w' from fun w => by
    have h := lower_any (bstr [74, 82, 68, 111, 101]) w (by decide)
    rw [show bstr (lowL (nums (bstr [74, 82, 68, 111, 101]))) = jrB by decide +kernel] at h
    exact h)
  have HL2 := Lib.hid (show ∀ w, Calls Tryz.prog 40 #[.string (bstr [74, 82, 68, 111, 101] ++ ⟨#[50]⟩)] w fun e w' => e = .returned (.string (kk 1)) ∧ Below w.heap.size w w' from fun w => by
    have h := lower_any (bstr [74, 82, 68, 111, 101] ++ ⟨#[50]⟩) w (by decide)
    rw [show bstr (lowL (nums (bstr [74, 82, 68, 111, 101] ++ ⟨#[50]⟩))) = kk 1 by decide +kernel] at h
    exact h)
  have HDG := Lib.hid (show ∀ w, Pow w → Calls Tryz.prog 23 #[.int .i64 2] w fun e w' => e = .returned (.string ⟨#[50]⟩) ∧ Below w.heap.size w w' from fun w hT => (digits_any 2 (by decide) w hT).mono (by
    rintro e w' ⟨rfl, hb⟩
    exact ⟨by rw [digN_small (by decide)]; rfl, hb⟩))
  clear hP
  obtain ⟨s, hs⟩ : ∃ s, joeB = s := ⟨_, rfl⟩
  rw [hs]
  have hm : s.size = 9 := by rw [← hs]; rfl
  have HLEN := Lib.hid (show (nums s).length = 9 by rw [nums_length, hm])
  have HS := Lib.hid hs
  clear hs
  go_enter Tryz.func30, Tryz.ntmps30
  go_wp2_with fail
  go_loopw [6, 20] (fun a b wr => ∃ k : Nat, k ≤ 9 ∧ b = .int .i64 (k : Nat) ∧ Mem [] w0 L (bT a (nkAcc ((nums s).take k)) :: R) wr) (fun _ b _ => 9 - (intOf b).toNat)
  case atStart => exact ⟨0, Nat.zero_le _, rfl, M0.out⟩
  case round =>
    clear M0
    obtain ⟨k, hk, rfl, hM⟩ := hrel
    have k0 : (0 : Int) ≤ (k : Int) := Int.natCast_nonneg _
    obtain ⟨A, c, hA, _⟩ := gT_form (hM.thing _ (.head _))
    subst hA
    obtain ⟨acc, hacc⟩ : ∃ acc, nkAcc ((nums s).take k) = acc := ⟨_, rfl⟩
    have hal : acc.length ≤ 9 := by
      rw [← hacc]
      have := nkAcc_len ((nums s).take k)
      rw [List.length_take] at this
      omega
    rw [hacc] at hM ⊢
    obtain ⟨n, hn⟩ : ∃ n, acc.length = n := ⟨_, rfl⟩
    rw [hn] at hM ⊢
    have n0 : (0 : Int) ≤ (n : Int) := Int.natCast_nonneg _
    have n9 : (n : Int) ≤ 9 := by omega
    have hal1 : acc.length + 1 ≤ 1000000000 := by omega
    by_cases hlt : k < 9
    · have hlt' : (k : Int) < 9 := by omega
      obtain ⟨d, hd⟩ : ∃ d, (nums s).getD k 0 = d := ⟨_, rfl⟩
      have hks : k < s.size := by omega
      have hdk : (s[k]'hks).toNat = d := by rw [← num_at s k hks]; exact hd
      have HST := Lib.hid (show nkAcc ((nums s).take (k + 1)) = nkStep acc d by
        have hkl : k < (nums s).length := by rw [HLEN.out]; exact hlt
        have e : (nums s).getD k 0 = (nums s)[k] := by simp [List.getD_eq_getElem?_getD, List.getElem?_eq_getElem hkl]
        rw [List.take_succ_eq_append_getElem hkl, nkAcc_snoc, hacc, ← hd, e])
      have HI := Lib.hid (isLetter_any d)
      have HN := Lib.hid (inNick_any d)
      cases hl : ltrB d with
      | true =>
        rw [hl] at HI
        have HE := Lib.hid (show nkStep acc d = acc ++ [d] by simp [nkStep, hl])
        clear hl hacc hd
        go_wp2_with (first | ((with_reducible refine (HI.out _).mono ?_); rintro e w1 ⟨rfl, rfl⟩) | ((with_reducible refine (HN.out _).mono ?_); rintro e w1 ⟨rfl, rfl⟩) | ((with_reducible refine at_bslice ?_); refine gbs hM rt_by (v := .int .u8 (d : Nat)) (cs := #[.int .u8 (d : Nat)]) rfl rfl (by decide) ?_; clear hM; intro gb wb hM) | ((with_reducible refine at_append ?_); refine gap (l := acc) hM rt_by (ent_src (x := d) hM rt_by rfl (List.Mem.head _)) hal1 ?_; clear hM; intro A2 N2 c2 wz HNN hM) | ((first | with_reducible refine at_load ?_ | ((with_reducible refine at_load_g ?_ ?_); (· rfl))); first | refine nll hM ?_ | refine nlc hM ?_ | refine nlp hM ?_) | ((with_reducible refine at_store ?_); first | (refine nlw hM ?_; clear hM; intro wx hM) | (refine nls hM ?_; clear hM; intro wx hM) | (refine nlt hM ?_; clear hM; intro wx hM)) | ((with_reducible refine at_alloc ?_); refine nlz hM ?_; clear hM; intro gx wx hM) | ((with_reducible refine at_box ?_); first | (refine nlb hM ?_; clear hM; intro gx wx hM) | (refine nlx hM ?_; clear hM; intro gx wx hM)))
        refine ⟨⟨k + 1, by omega, by go_num, ?_⟩, by simp [intOf]; omega⟩
        rw [HST.out, HE.out]
        exact hM.subL (List.sublist_cons_self _ _)
      | false =>
        rw [hl] at HI
        by_cases hn0 : n = 0
        · have hgt : (n : Int) ≤ 0 := by omega
          have HE := Lib.hid (show nkStep acc d = acc by simp [nkStep, hl, hn, hn0])
          clear hl hacc hd hn0
          go_wp2_with (first | ((with_reducible refine (HI.out _).mono ?_); rintro e w1 ⟨rfl, rfl⟩) | ((with_reducible refine (HN.out _).mono ?_); rintro e w1 ⟨rfl, rfl⟩) | ((with_reducible refine at_bslice ?_); refine gbs hM rt_by (v := .int .u8 (d : Nat)) (cs := #[.int .u8 (d : Nat)]) rfl rfl (by decide) ?_; clear hM; intro gb wb hM) | ((with_reducible refine at_append ?_); refine gap (l := acc) hM rt_by (ent_src (x := d) hM rt_by rfl (List.Mem.head _)) hal1 ?_; clear hM; intro A2 N2 c2 wz HNN hM) | ((first | with_reducible refine at_load ?_ | ((with_reducible refine at_load_g ?_ ?_); (· rfl))); first | refine nll hM ?_ | refine nlc hM ?_ | refine nlp hM ?_) | ((with_reducible refine at_store ?_); first | (refine nlw hM ?_; clear hM; intro wx hM) | (refine nls hM ?_; clear hM; intro wx hM) | (refine nlt hM ?_; clear hM; intro wx hM)) | ((with_reducible refine at_alloc ?_); refine nlz hM ?_; clear hM; intro gx wx hM) | ((with_reducible refine at_box ?_); first | (refine nlb hM ?_; clear hM; intro gx wx hM) | (refine nlx hM ?_; clear hM; intro gx wx hM)))
          refine ⟨⟨k + 1, by omega, by go_num, ?_⟩, by simp [intOf]; omega⟩
          rw [HST.out, HE.out]
          exact hM
        · have hgt : (0 : Int) < (n : Int) := by omega
          cases hx : nkB d with
          | true =>
            rw [hx] at HN
            have HE := Lib.hid (show nkStep acc d = acc ++ [d] by simp [nkStep, hx, hn]; omega)
            clear hl hx hacc hd hn0
            go_wp2_with (first | ((with_reducible refine (HI.out _).mono ?_); rintro e w1 ⟨rfl, rfl⟩) | ((with_reducible refine (HN.out _).mono ?_); rintro e w1 ⟨rfl, rfl⟩) | ((with_reducible refine at_bslice ?_); refine gbs hM rt_by (v := .int .u8 (d : Nat)) (cs := #[.int .u8 (d : Nat)]) rfl rfl (by decide) ?_; clear hM; intro gb wb hM) | ((with_reducible refine at_append ?_); refine gap (l := acc) hM rt_by (ent_src (x := d) hM rt_by rfl (List.Mem.head _)) hal1 ?_; clear hM; intro A2 N2 c2 wz HNN hM) | ((first | with_reducible refine at_load ?_ | ((with_reducible refine at_load_g ?_ ?_); (· rfl))); first | refine nll hM ?_ | refine nlc hM ?_ | refine nlp hM ?_) | ((with_reducible refine at_store ?_); first | (refine nlw hM ?_; clear hM; intro wx hM) | (refine nls hM ?_; clear hM; intro wx hM) | (refine nlt hM ?_; clear hM; intro wx hM)) | ((with_reducible refine at_alloc ?_); refine nlz hM ?_; clear hM; intro gx wx hM) | ((with_reducible refine at_box ?_); first | (refine nlb hM ?_; clear hM; intro gx wx hM) | (refine nlx hM ?_; clear hM; intro gx wx hM)))
            refine ⟨⟨k + 1, by omega, by go_num, ?_⟩, by simp [intOf]; omega⟩
            rw [HST.out, HE.out]
            exact hM.subL (List.sublist_cons_self _ _)
          | false =>
            rw [hx] at HN
            have HE := Lib.hid (show nkStep acc d = acc by simp [nkStep, hl, hx])
            clear hl hx hacc hd hn0
            go_wp2_with (first | ((with_reducible refine (HI.out _).mono ?_); rintro e w1 ⟨rfl, rfl⟩) | ((with_reducible refine (HN.out _).mono ?_); rintro e w1 ⟨rfl, rfl⟩) | ((with_reducible refine at_bslice ?_); refine gbs hM rt_by (v := .int .u8 (d : Nat)) (cs := #[.int .u8 (d : Nat)]) rfl rfl (by decide) ?_; clear hM; intro gb wb hM) | ((with_reducible refine at_append ?_); refine gap (l := acc) hM rt_by (ent_src (x := d) hM rt_by rfl (List.Mem.head _)) hal1 ?_; clear hM; intro A2 N2 c2 wz HNN hM) | ((first | with_reducible refine at_load ?_ | ((with_reducible refine at_load_g ?_ ?_); (· rfl))); first | refine nll hM ?_ | refine nlc hM ?_ | refine nlp hM ?_) | ((with_reducible refine at_store ?_); first | (refine nlw hM ?_; clear hM; intro wx hM) | (refine nls hM ?_; clear hM; intro wx hM) | (refine nlt hM ?_; clear hM; intro wx hM)) | ((with_reducible refine at_alloc ?_); refine nlz hM ?_; clear hM; intro gx wx hM) | ((with_reducible refine at_box ?_); first | (refine nlb hM ?_; clear hM; intro gx wx hM) | (refine nlx hM ?_; clear hM; intro gx wx hM)))
            refine ⟨⟨k + 1, by omega, by go_num, ?_⟩, by simp [intOf]; omega⟩
            rw [HST.out, HE.out]
            exact hM
    · have hk9 : k = 9 := by omega
      have hA5 : acc = [74, 82, 68, 111, 101] := by
        rw [← hacc, List.take_of_length_le (by rw [HLEN.out]; omega), ← HS.out]
        decide +kernel
      subst hk9
      subst hA5
      have hn5 : n = 5 := by rw [← hn]; rfl
      subst hn5
      have hP5 := hM.thing _ (.head _)
      have HA := Lib.hid (adv_zero hP5)
      have HC5 := Lib.hid (gT_len hP5).2
      have HRD := Lib.hid (show ∀ w', (bT (.slice A 5 c) [74, 82, 68, 111, 101]).P w' → Reads w' 1 A 5 (vals .u8 [74, 82, 68, 111, 101]) from fun w' h => by
        have := gT_take cf_by h 5 (Nat.le_refl _)
        rwa [rows_by] at this)
      clear hn hacc hal hal1 hlt hk hP5 k0 n0 n9
      go_wp2_with (first | ((with_reducible refine at_mmakeS ?_); refine nmmS 1 hM ?_; clear hM; intro mb wm hM) | ((first | with_reducible refine at_load ?_ | ((with_reducible refine at_load_g ?_ ?_); (· rfl))); first | refine nll hM ?_ | refine nlc hM ?_ | refine nlp hM ?_) | ((with_reducible refine at_store ?_); first | (refine nlw hM ?_; clear hM; intro wx hM) | (refine nls hM ?_; clear hM; intro wx hM) | (refine nlt hM ?_; clear hM; intro wx hM)) | ((with_reducible refine at_alloc ?_); refine nlz hM ?_; clear hM; intro gx wx hM) | ((with_reducible refine at_box ?_); first | (refine nlb hM ?_; clear hM; intro gx wx hM) | (refine nlx hM ?_; clear hM; intro gx wx hM)))
      refine wp_loop_rounds 2 ?_
      rw [rounds_succ]
      go_wp2_with (first | ((with_reducible refine (HLO.out _).mono ?_); rintro e w1 ⟨rfl, hb⟩; replace hM := hM.step hb; clear hb) | ((with_reducible refine at_mputS ?_); refine nmuS (j := 0) (v := .bool true) hM mty_boolS (by decide) ?_; clear hM; intro wu hM) | ((first | with_reducible refine at_load ?_ | ((with_reducible refine at_load_g ?_ ?_); (· rfl))); first | refine nll hM ?_ | refine nlc hM ?_ | refine nlp hM ?_) | ((with_reducible refine at_store ?_); first | (refine nlw hM ?_; clear hM; intro wx hM) | (refine nls hM ?_; clear hM; intro wx hM) | (refine nlt hM ?_; clear hM; intro wx hM)) | ((with_reducible refine at_alloc ?_); refine nlz hM ?_; clear hM; intro gx wx hM) | ((with_reducible refine at_box ?_); first | (refine nlb hM ?_; clear hM; intro gx wx hM) | (refine nlx hM ?_; clear hM; intro gx wx hM)))
      rw [rounds_succ]
      have hmn : min (5 : Int) 16 = 5 := by decide
      have hmn2 : min (5 : Int) 15 = 5 := by decide
      go_wp2_with (first | ((with_reducible refine at_slice ?_); refine lsl_hi rt_by.u rt_by.sz (k := 5) HC5.out HA.out ?_) | ((with_reducible refine at_conv ?_); refine gcs (HRD.out _ (hM.thing _ (List.Mem.tail _ (List.Mem.head _)))) ?_) | ((with_reducible refine (HLU.out _).mono ?_); rintro e w1 ⟨rfl, hb⟩; replace hM := hM.step hb; clear hb) | ((with_reducible refine (HL2.out _).mono ?_); rintro e w1 ⟨rfl, hb⟩; replace hM := hM.step hb; clear hb) | ((with_reducible refine (HDG.out _ (HPW.out _ hM.below)).mono ?_); rintro e w1 ⟨rfl, hb⟩; replace hM := hM.step hb; clear hb) | ((with_reducible refine at_mlookS ?_); first | refine wpList_pure (by rfl) (ymlS (j := 0) (v := .bool true) mty_boolS hM (by decide) rfl) ?_ | refine wpList_pure (by rfl) (ymlS (j := 1) (v := .bool false) mty_boolS hM (by decide) rfl) ?_) | ((first | with_reducible refine at_load ?_ | ((with_reducible refine at_load_g ?_ ?_); (· rfl))); first | refine nll hM ?_ | refine nlc hM ?_ | refine nlp hM ?_) | ((with_reducible refine at_store ?_); first | (refine nlw hM ?_; clear hM; intro wx hM) | (refine nls hM ?_; clear hM; intro wx hM) | (refine nlt hM ?_; clear hM; intro wx hM)) | ((with_reducible refine at_alloc ?_); refine nlz hM ?_; clear hM; intro gx wx hM) | ((with_reducible refine at_box ?_); first | (refine nlb hM ?_; clear hM; intro gx wx hM) | (refine nlx hM ?_; clear hM; intro gx wx hM)))
      refine wp_loop_rounds 2 ?_
      rw [rounds_succ]
      go_wp2_with (first | ((with_reducible refine at_slice ?_); refine lsl_hi rt_by.u rt_by.sz (k := 5) HC5.out HA.out ?_) | ((with_reducible refine at_conv ?_); refine gcs (HRD.out _ (hM.thing _ (List.Mem.tail _ (List.Mem.head _)))) ?_) | ((with_reducible refine (HLU.out _).mono ?_); rintro e w1 ⟨rfl, hb⟩; replace hM := hM.step hb; clear hb) | ((with_reducible refine (HL2.out _).mono ?_); rintro e w1 ⟨rfl, hb⟩; replace hM := hM.step hb; clear hb) | ((with_reducible refine (HDG.out _ (HPW.out _ hM.below)).mono ?_); rintro e w1 ⟨rfl, hb⟩; replace hM := hM.step hb; clear hb) | ((with_reducible refine at_mlookS ?_); first | refine wpList_pure (by rfl) (ymlS (j := 0) (v := .bool true) mty_boolS hM (by decide) rfl) ?_ | refine wpList_pure (by rfl) (ymlS (j := 1) (v := .bool false) mty_boolS hM (by decide) rfl) ?_) | ((first | with_reducible refine at_load ?_ | ((with_reducible refine at_load_g ?_ ?_); (· rfl))); first | refine nll hM ?_ | refine nlc hM ?_ | refine nlp hM ?_) | ((with_reducible refine at_store ?_); first | (refine nlw hM ?_; clear hM; intro wx hM) | (refine nls hM ?_; clear hM; intro wx hM) | (refine nlt hM ?_; clear hM; intro wx hM)) | ((with_reducible refine at_alloc ?_); refine nlz hM ?_; clear hM; intro gx wx hM) | ((with_reducible refine at_box ?_); first | (refine nlb hM ?_; clear hM; intro gx wx hM) | (refine nlx hM ?_; clear hM; intro gx wx hM)))
      rw [rounds_succ]
      go_wp2_with (first | ((with_reducible refine at_slice ?_); refine lsl_hi rt_by.u rt_by.sz (k := 5) HC5.out HA.out ?_) | ((with_reducible refine at_conv ?_); refine gcs (HRD.out _ (hM.thing _ (List.Mem.tail _ (List.Mem.head _)))) ?_) | ((with_reducible refine (HLU.out _).mono ?_); rintro e w1 ⟨rfl, hb⟩; replace hM := hM.step hb; clear hb) | ((with_reducible refine (HL2.out _).mono ?_); rintro e w1 ⟨rfl, hb⟩; replace hM := hM.step hb; clear hb) | ((with_reducible refine (HDG.out _ (HPW.out _ hM.below)).mono ?_); rintro e w1 ⟨rfl, hb⟩; replace hM := hM.step hb; clear hb) | ((with_reducible refine at_mlookS ?_); first | refine wpList_pure (by rfl) (ymlS (j := 0) (v := .bool true) mty_boolS hM (by decide) rfl) ?_ | refine wpList_pure (by rfl) (ymlS (j := 1) (v := .bool false) mty_boolS hM (by decide) rfl) ?_) | ((first | with_reducible refine at_load ?_ | ((with_reducible refine at_load_g ?_ ?_); (· rfl))); first | refine nll hM ?_ | refine nlc hM ?_ | refine nlp hM ?_) | ((with_reducible refine at_store ?_); first | (refine nlw hM ?_; clear hM; intro wx hM) | (refine nls hM ?_; clear hM; intro wx hM) | (refine nlt hM ?_; clear hM; intro wx hM)) | ((with_reducible refine at_alloc ?_); refine nlz hM ?_; clear hM; intro gx wx hM) | ((with_reducible refine at_box ?_); first | (refine nlb hM ?_; clear hM; intro gx wx hM) | (refine nlx hM ?_; clear hM; intro gx wx hM)))
      go_ret2
      refine ⟨rfl, hM.subR ?_⟩
      exact .cons _ (List.sublist_cons_self _ _)
end
end Go.Proofs.YtlidpdjainmaiaaGreatDoor
