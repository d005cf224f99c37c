/- Seat c: ParseLine: its closures. -/
import Derived.Test.YtlidpdjainmaiaaGreatDoorGy
namespace Go.Proofs.YtlidpdjainmaiaaGreatDoor
open Go Go.RowKit Go.Bul Go.Thg Go.Lin Go.Cht
theorem cut_at (s sep : ByteArray) (A B : List Nat) (c : Nat) (hs : nums sep = [c]) (h : nums s = A ++ c :: B) (hA : c ∉ A) (h9 : s.size ≤ 1000000000) (w : World) : Calls Tryz.prog 26 #[.string s, .string sep] w fun e w' => e = .returned (.tuple #[.string (bstr A), .string (bstr B), .bool true]) ∧ Below w.heap.size w w' := by
  rw [sep_one hs]
  exact cut_yes s A B c h hA h9 w
/-- What ParseLine's closures share: the place, the line, 'expect', the text. -/
abbrev pfe (gs ga : Nat) : Value := .func (.func 44) #[] #[.pointer (some ⟨gs, 0, none⟩), .pointer (some ⟨ga, 0, none⟩)]
abbrev pL (ga gl ge gs : Nat) (s : ByteArray) (k n : Nat) (nk tx : ByteArray) (L : List Ent) : List Ent :=
  ⟨ge, 54, 1, #[pfe gs ga]⟩ :: ⟨ga, 3, 1, #[.int .i64 (k : Nat)]⟩ :: ⟨gl, 37, 3, #[.int .i64 (n : Nat), .string nk, .string tx]⟩ :: ⟨gs, 9, 1, #[.string s]⟩ :: L
abbrev p1 (g : Nat) : Value := .pointer (some ⟨g, 0, none⟩)
theorem drop_app {l a b : List Nat} {k : Nat} (h : l.drop k = a ++ b) : l.drop (k + a.length) = b := by
  rw [← List.drop_drop, h, List.drop_left]
theorem drop_len {l a b : List Nat} {k : Nat} (h : l.drop k = a ++ b) (ha : 0 < a.length) : k + a.length + b.length = l.length := by
  have := congrArg List.length h
  rw [List.length_drop, List.length_append] at this
  omega
theorem extract_drop {s : ByteArray} {k m : Nat} (hm : s.size = m) : nums (s.extract k m) = (nums s).drop k := by
  rw [nums_extract, List.take_of_length_le (by rw [nums_length]; omega)]
section
variable {w w0 : World} {G : List Nat} {L : List Ent} {R : List Thing}
set_option maxRecDepth 20000 in
set_option maxHeartbeats 2000000 in
theorem expect_any (ga gl ge gs : Nat) (s p : ByteArray) (k n : Nat) (nk tx : ByteArray) (rest : List Nat) (hM : Mem G w0 (pL ga gl ge gs s k n nk tx L) R w) (h : (nums s).drop k = nums p ++ rest) (hp : 0 < p.size) (h9 : s.size ≤ 1000000000) :
    Calls Tryz.prog 44 #[.string p, p1 gs, p1 ga] w fun e w' => e = .returned (.int .i64 0) ∧ Mem G w0 (pL ga gl ge gs s (k + p.size) n nk tx L) R w' := by
  obtain ⟨m, hm⟩ : ∃ m, s.size = m := ⟨_, rfl⟩
  have hl := drop_len h (by rw [nums_length]; exact hp)
  rw [nums_length, nums_length, hm] at hl
  have hpre : (nums p).isPrefixOf (nums (s.extract k m)) = true := by
    rw [extract_drop hm, h, List.isPrefixOf_iff_prefix]
    exact List.prefix_append _ _
  have HP := Lib.hid (fun w => has_any (s.extract k m) p w)
  rw [hpre] at HP
  obtain ⟨q, hq⟩ : ∃ q, p.size = q := ⟨_, rfl⟩
  rw [hq] at hl hp ⊢
  have k0 : (0 : Int) ≤ (k : Int) := Int.natCast_nonneg _
  have q0 : (0 : Int) ≤ (q : Int) := Int.natCast_nonneg _
  have k1 : (k : Int) + (q : Int) ≤ (m : Int) := by omega
  have k2 : (k : Int) ≤ (m : Int) := by omega
  have m1 : (m : Int) ≤ 1000000000 := by omega
  have e1 : ((k + q : Nat) : Int) = (k : Int) + (q : Int) := by omega
  clear hl hpre h h9 hp
  go_enter Tryz.func44, Tryz.ntmps44
  go_wp2_with (first | ((with_reducible refine (HP.out _).mono ?_); rintro e w1 ⟨rfl, hb⟩; replace hM := hM.step hb; clear hb) | ((first | with_reducible refine at_load ?_ | ((with_reducible refine at_load_g ?_ ?_); (· rfl))); first | refine nll hM ?_ | refine nlc hM ?_ | refine nlp hM ?_) | ((with_reducible refine at_store ?_); first | (refine nlw hM ?_; clear hM; intro wx hM) | (refine nls hM ?_; clear hM; intro wx hM) | (refine nlt hM ?_; clear hM; intro wx hM)) | ((with_reducible refine at_alloc ?_); refine nlz hM ?_; clear hM; intro gx wx hM) | ((with_reducible refine at_box ?_); first | (refine nlb hM ?_; clear hM; intro gx wx hM) | (refine nlx hM ?_; clear hM; intro gx wx hM)))
  go_ret
  refine ⟨rfl, ?_⟩
  simp only [pL, e1]
  exact hM
set_option maxRecDepth 20000 in
set_option maxHeartbeats 2000000 in
theorem step1_any (ga gl ge gs : Nat) (s : ByteArray) (k n : Nat) (nk tx : ByteArray) (rest : List Nat) (hM : Mem G w0 (pL ga gl ge gs s k n nk tx L) R w) (h : (nums s).drop k = nums ⟨#[91]⟩ ++ rest) (h9 : s.size ≤ 1000000000) :
    Calls Tryz.prog 46 #[p1 ge] w fun e w' => e = .returned (.int .i64 0) ∧ Mem G w0 (pL ga gl ge gs s (k + 1) n nk tx L) R w' := by
  have HE := Lib.hid (fun w hM => expect_any (w := w) (w0 := w0) (G := G) (L := L) (R := R) ga gl ge gs s _ k n nk tx rest hM h (by decide) h9)
  clear h h9
  go_enter Tryz.func46, Tryz.ntmps46
  go_wp2_with (first | ((with_reducible refine (HE.out _ hM).mono ?_); rintro e w1 ⟨rfl, hM2⟩; clear hM; have hM := hM2; clear hM2) | ((first | with_reducible refine at_load ?_ | ((with_reducible refine at_load_g ?_ ?_); (· rfl))); first | refine nll hM ?_ | refine nlc hM ?_ | refine nlp hM ?_) | ((with_reducible refine at_store ?_); first | (refine nlw hM ?_; clear hM; intro wx hM) | (refine nls hM ?_; clear hM; intro wx hM) | (refine nlt hM ?_; clear hM; intro wx hM)) | ((with_reducible refine at_alloc ?_); refine nlz hM ?_; clear hM; intro gx wx hM) | ((with_reducible refine at_box ?_); first | (refine nlb hM ?_; clear hM; intro gx wx hM) | (refine nlx hM ?_; clear hM; intro gx wx hM)))
  go_ret
  exact ⟨rfl, hM⟩
set_option maxRecDepth 20000 in
set_option maxHeartbeats 2000000 in
theorem step3_any (ga gl ge gs : Nat) (s : ByteArray) (k n : Nat) (nk tx : ByteArray) (rest : List Nat) (hM : Mem G w0 (pL ga gl ge gs s k n nk tx L) R w) (h : (nums s).drop k = nums ⟨#[32, 60]⟩ ++ rest) (h9 : s.size ≤ 1000000000) :
    Calls Tryz.prog 49 #[p1 ge] w fun e w' => e = .returned (.int .i64 0) ∧ Mem G w0 (pL ga gl ge gs s (k + 2) n nk tx L) R w' := by
  have HE := Lib.hid (fun w hM => expect_any (w := w) (w0 := w0) (G := G) (L := L) (R := R) ga gl ge gs s _ k n nk tx rest hM h (by decide) h9)
  clear h h9
  go_enter Tryz.func49, Tryz.ntmps49
  go_wp2_with (first | ((with_reducible refine (HE.out _ hM).mono ?_); rintro e w1 ⟨rfl, hM2⟩; clear hM; have hM := hM2; clear hM2) | ((first | with_reducible refine at_load ?_ | ((with_reducible refine at_load_g ?_ ?_); (· rfl))); first | refine nll hM ?_ | refine nlc hM ?_ | refine nlp hM ?_) | ((with_reducible refine at_store ?_); first | (refine nlw hM ?_; clear hM; intro wx hM) | (refine nls hM ?_; clear hM; intro wx hM) | (refine nlt hM ?_; clear hM; intro wx hM)) | ((with_reducible refine at_alloc ?_); refine nlz hM ?_; clear hM; intro gx wx hM) | ((with_reducible refine at_box ?_); first | (refine nlb hM ?_; clear hM; intro gx wx hM) | (refine nlx hM ?_; clear hM; intro gx wx hM)))
  go_ret
  exact ⟨rfl, hM⟩
set_option maxRecDepth 20000 in
set_option maxHeartbeats 2000000 in
theorem step5_any (ga gl ge gs : Nat) (s : ByteArray) (k n : Nat) (nk tx : ByteArray) (rest : List Nat) (hM : Mem G w0 (pL ga gl ge gs s k n nk tx L) R w) (h : (nums s).drop k = nums ⟨#[32]⟩ ++ rest) (h9 : s.size ≤ 1000000000) :
    Calls Tryz.prog 51 #[p1 ge] w fun e w' => e = .returned (.int .i64 0) ∧ Mem G w0 (pL ga gl ge gs s (k + 1) n nk tx L) R w' := by
  have HE := Lib.hid (fun w hM => expect_any (w := w) (w0 := w0) (G := G) (L := L) (R := R) ga gl ge gs s _ k n nk tx rest hM h (by decide) h9)
  clear h h9
  go_enter Tryz.func51, Tryz.ntmps51
  go_wp2_with (first | ((with_reducible refine (HE.out _ hM).mono ?_); rintro e w1 ⟨rfl, hM2⟩; clear hM; have hM := hM2; clear hM2) | ((first | with_reducible refine at_load ?_ | ((with_reducible refine at_load_g ?_ ?_); (· rfl))); first | refine nll hM ?_ | refine nlc hM ?_ | refine nlp hM ?_) | ((with_reducible refine at_store ?_); first | (refine nlw hM ?_; clear hM; intro wx hM) | (refine nls hM ?_; clear hM; intro wx hM) | (refine nlt hM ?_; clear hM; intro wx hM)) | ((with_reducible refine at_alloc ?_); refine nlz hM ?_; clear hM; intro gx wx hM) | ((with_reducible refine at_box ?_); first | (refine nlb hM ?_; clear hM; intro gx wx hM) | (refine nlx hM ?_; clear hM; intro gx wx hM)))
  go_ret
  exact ⟨rfl, hM⟩
set_option maxRecDepth 20000 in
set_option maxHeartbeats 2000000 in
theorem step2_any (ga gl ge gs : Nat) (s : ByteArray) (k n N : Nat) (nk tx : ByteArray) (rest : List Nat) (hM : Mem G w0 (pL ga gl ge gs s k n nk tx L) R w) (h : (nums s).drop k = digN N ++ 93 :: rest) (hN : N ≤ 105190559) (h9 : s.size ≤ 1000000000) :
    Calls Tryz.prog 47 #[p1 gs, p1 ga, p1 gl] w fun e w' => e = .returned (.int .i64 0) ∧ Mem G w0 (pL ga gl ge gs s (k + (digN N).length + 1) N nk tx L) R w' := by
  have hdb : nums (bstr (digN N)) = digN N := nums_bstr (fun b hb => by have := digN_digits _ b hb; omega)
  have HN := Lib.hid (fun w => number_any (bstr (digN N)) N hdb hN w)
  have hA : 93 ∉ digN N := fun hb => by have := digN_digits _ _ hb; omega
  have hA0 : 0 < (digN N).length := List.length_pos_iff.2 (digN_ne N)
  generalize digN N = A at h hdb HN hA hA0 ⊢
  obtain ⟨c, hc⟩ : ∃ c, c = 93 := ⟨_, rfl⟩
  rw [← hc] at h hA
  obtain ⟨sep, hse⟩ : ∃ sep : ByteArray, sep = ⟨#[93]⟩ := ⟨_, rfl⟩
  have hsep : nums sep = [c] := by rw [hse, hc]; rfl
  obtain ⟨m, hm⟩ : ∃ m, s.size = m := ⟨_, rfl⟩
  have hl := drop_len h hA0
  simp only [List.length_cons] at hl
  rw [nums_length, hm] at hl
  have HC := Lib.hid (fun w => cut_at (s.extract k m) sep A rest c hsep (by rw [extract_drop hm, h]) hA (by rw [ByteArray.size_extract]; omega) w)
  have k0 : (0 : Int) ≤ (k : Int) := Int.natCast_nonneg _
  obtain ⟨q, hq⟩ : ∃ q, A.length = q := ⟨_, rfl⟩
  rw [hq] at hl
  try rw [hq]
  have q0 : (0 : Int) ≤ (q : Int) := Int.natCast_nonneg _
  have hbs : (bstr A).size = q := by rw [bstr_size, hq]
  have k1 : (k : Int) + (q : Int) + 1 ≤ (m : Int) := by omega
  have k2 : (k : Int) ≤ (m : Int) := by omega
  have m1 : (m : Int) ≤ 1000000000 := by omega
  have e1 : ((k + q + 1 : Nat) : Int) = (k : Int) + ((q : Int) + 1) := by omega
  clear hsep
  subst hse
  clear hc hl h hdb hA hA0 h9 hN hq
  go_enter Tryz.func47, Tryz.ntmps47
  go_wp2_with (first | ((with_reducible refine (HC.out _).mono ?_); rintro e w1 ⟨rfl, hb⟩; replace hM := hM.step hb; clear hb) | ((with_reducible refine (HN.out _).mono ?_); rintro e w1 ⟨rfl, hb⟩; replace hM := hM.step hb; clear hb) | ((first | with_reducible refine at_load ?_ | ((with_reducible refine at_load_g ?_ ?_); (· rfl))); first | refine nll hM ?_ | refine nlc hM ?_ | refine nlp hM ?_) | ((with_reducible refine at_store ?_); first | (refine nlw hM ?_; clear hM; intro wx hM) | (refine nls hM ?_; clear hM; intro wx hM) | (refine nlt hM ?_; clear hM; intro wx hM)) | ((with_reducible refine at_alloc ?_); refine nlz hM ?_; clear hM; intro gx wx hM) | ((with_reducible refine at_box ?_); first | (refine nlb hM ?_; clear hM; intro gx wx hM) | (refine nlx hM ?_; clear hM; intro gx wx hM)))
  go_ret
  refine ⟨rfl, ?_⟩
  simp only [pL, e1]
  exact hM
set_option maxRecDepth 20000 in
set_option maxHeartbeats 2000000 in
theorem step4_yes (ga gl ge gs : Nat) (s : ByteArray) (k n : Nat) (nk tx : ByteArray) (A rest : List Nat) (hM : Mem G w0 (pL ga gl ge gs s k n nk tx L) R w) (h : (nums s).drop k = A ++ 62 :: rest) (hA : 62 ∉ A) (hA0 : 0 < A.length) (h9 : s.size ≤ 1000000000) (hv : nickB A = true) :
    Calls Tryz.prog 50 #[p1 gs, p1 ga, p1 gl] w fun e w' => e = .returned (.int .i64 0) ∧ Mem G w0 (pL ga gl ge gs s (k + A.length + 1) n (bstr A) tx L) R w' := by
  have hAB : Bytes A := fun b hb => bytes_of_nums s b (List.mem_of_mem_drop (by rw [h]; simp [hb]))
  have HN := Lib.hid (fun w => isNick_any (bstr A) w)
  rw [nums_bstr hAB, hv] at HN
  obtain ⟨c, hc⟩ : ∃ c, c = 62 := ⟨_, rfl⟩
  rw [← hc] at h hA
  obtain ⟨sep, hse⟩ : ∃ sep : ByteArray, sep = ⟨#[62]⟩ := ⟨_, rfl⟩
  have hsep : nums sep = [c] := by rw [hse, hc]; rfl
  obtain ⟨m, hm⟩ : ∃ m, s.size = m := ⟨_, rfl⟩
  have hl := drop_len h hA0
  simp only [List.length_cons] at hl
  rw [nums_length, hm] at hl
  have HC := Lib.hid (fun w => cut_at (s.extract k m) sep A rest c hsep (by rw [extract_drop hm, h]) hA (by rw [ByteArray.size_extract]; omega) w)
  have k0 : (0 : Int) ≤ (k : Int) := Int.natCast_nonneg _
  obtain ⟨q, hq⟩ : ∃ q, A.length = q := ⟨_, rfl⟩
  rw [hq] at hl
  try rw [hq]
  have q0 : (0 : Int) ≤ (q : Int) := Int.natCast_nonneg _
  have hbs : (bstr A).size = q := by rw [bstr_size, hq]
  have k1 : (k : Int) + (q : Int) + 1 ≤ (m : Int) := by omega
  have k2 : (k : Int) ≤ (m : Int) := by omega
  have m1 : (m : Int) ≤ 1000000000 := by omega
  have e1 : ((k + q + 1 : Nat) : Int) = (k : Int) + ((q : Int) + 1) := by omega
  clear hsep
  subst hse
  clear hc hl h hA hA0 h9 hq hAB hv
  go_enter Tryz.func50, Tryz.ntmps50
  go_wp2_with (first | ((with_reducible refine (HC.out _).mono ?_); rintro e w1 ⟨rfl, hb⟩; replace hM := hM.step hb; clear hb) | ((with_reducible refine (HN.out _).mono ?_); rintro e w1 ⟨rfl, hb⟩; replace hM := hM.step hb; clear hb) | ((first | with_reducible refine at_load ?_ | ((with_reducible refine at_load_g ?_ ?_); (· rfl))); first | refine nll hM ?_ | refine nlc hM ?_ | refine nlp hM ?_) | ((with_reducible refine at_store ?_); first | (refine nlw hM ?_; clear hM; intro wx hM) | (refine nls hM ?_; clear hM; intro wx hM) | (refine nlt hM ?_; clear hM; intro wx hM)) | ((with_reducible refine at_alloc ?_); refine nlz hM ?_; clear hM; intro gx wx hM) | ((with_reducible refine at_box ?_); first | (refine nlb hM ?_; clear hM; intro gx wx hM) | (refine nlx hM ?_; clear hM; intro gx wx hM)))
  go_ret
  refine ⟨rfl, ?_⟩
  simp only [pL, e1]
  exact hM
set_option maxRecDepth 20000 in
set_option maxHeartbeats 2000000 in
theorem step4_no (ga gl ge gs : Nat) (s : ByteArray) (k n : Nat) (nk tx : ByteArray) (A rest : List Nat) (hM : Mem G w0 (pL ga gl ge gs s k n nk tx L) R w) (h : (nums s).drop k = A ++ 62 :: rest) (hA : 62 ∉ A) (hA0 : 0 < A.length) (h9 : s.size ≤ 1000000000) (hv : nickB A = false) :
    Calls Tryz.prog 50 #[p1 gs, p1 ga, p1 gl] w fun e w' => e = .returned (.int .i64 12) ∧ Mem G w0 (pL ga gl ge gs s k n nk tx L) R w' := by
  have hAB : Bytes A := fun b hb => bytes_of_nums s b (List.mem_of_mem_drop (by rw [h]; simp [hb]))
  have HN := Lib.hid (fun w => isNick_any (bstr A) w)
  rw [nums_bstr hAB, hv] at HN
  obtain ⟨c, hc⟩ : ∃ c, c = 62 := ⟨_, rfl⟩
  rw [← hc] at h hA
  obtain ⟨sep, hse⟩ : ∃ sep : ByteArray, sep = ⟨#[62]⟩ := ⟨_, rfl⟩
  have hsep : nums sep = [c] := by rw [hse, hc]; rfl
  obtain ⟨m, hm⟩ : ∃ m, s.size = m := ⟨_, rfl⟩
  have hl := drop_len h hA0
  simp only [List.length_cons] at hl
  rw [nums_length, hm] at hl
  have HC := Lib.hid (fun w => cut_at (s.extract k m) sep A rest c hsep (by rw [extract_drop hm, h]) hA (by rw [ByteArray.size_extract]; omega) w)
  have k0 : (0 : Int) ≤ (k : Int) := Int.natCast_nonneg _
  obtain ⟨q, hq⟩ : ∃ q, A.length = q := ⟨_, rfl⟩
  rw [hq] at hl
  try rw [hq]
  have q0 : (0 : Int) ≤ (q : Int) := Int.natCast_nonneg _
  have hbs : (bstr A).size = q := by rw [bstr_size, hq]
  have k1 : (k : Int) + (q : Int) + 1 ≤ (m : Int) := by omega
  have k2 : (k : Int) ≤ (m : Int) := by omega
  have m1 : (m : Int) ≤ 1000000000 := by omega
  have e1 : ((k + q + 1 : Nat) : Int) = (k : Int) + ((q : Int) + 1) := by omega
  clear hsep
  subst hse
  clear hc hl h hA hA0 h9 hq hAB hv
  go_enter Tryz.func50, Tryz.ntmps50
  go_wp2_with (first | ((with_reducible refine (HC.out _).mono ?_); rintro e w1 ⟨rfl, hb⟩; replace hM := hM.step hb; clear hb) | ((with_reducible refine (HN.out _).mono ?_); rintro e w1 ⟨rfl, hb⟩; replace hM := hM.step hb; clear hb) | ((first | with_reducible refine at_load ?_ | ((with_reducible refine at_load_g ?_ ?_); (· rfl))); first | refine nll hM ?_ | refine nlc hM ?_ | refine nlp hM ?_) | ((with_reducible refine at_store ?_); first | (refine nlw hM ?_; clear hM; intro wx hM) | (refine nls hM ?_; clear hM; intro wx hM) | (refine nlt hM ?_; clear hM; intro wx hM)) | ((with_reducible refine at_alloc ?_); refine nlz hM ?_; clear hM; intro gx wx hM) | ((with_reducible refine at_box ?_); first | (refine nlb hM ?_; clear hM; intro gx wx hM) | (refine nlx hM ?_; clear hM; intro gx wx hM)))
  go_ret
  exact ⟨rfl, hM⟩
set_option maxRecDepth 20000 in
set_option maxHeartbeats 2000000 in
theorem step6_any (ga gl ge gs : Nat) (s : ByteArray) (k n : Nat) (nk tx : ByteArray) (rest : List Nat) (hM : Mem G w0 (pL ga gl ge gs s k n nk tx L) R w) (h : (nums s).drop k = rest) (hk : k ≤ s.size) (h9 : s.size ≤ 1000000000) :
    Calls Tryz.prog 52 #[p1 gs, p1 ga, p1 gl] w fun e w' => e = .returned (.int .i64 (chkT rest)) ∧ Mem G w0 (pL ga gl ge gs s k n nk (bstr rest) L) R w' := by
  obtain ⟨m, hm⟩ : ∃ m, s.size = m := ⟨_, rfl⟩
  have HX := Lib.hid (show s.extract k m = bstr rest by
    refine nums_inj ?_
    rw [extract_drop hm, h, nums_bstr]
    intro b hb
    exact bytes_of_nums s b (List.mem_of_mem_drop (by rw [h]; exact hb)))
  have HT := Lib.hid (fun w => chkT_any (s.extract k m) w (by rw [ByteArray.size_extract]; omega))
  rw [extract_drop hm, h] at HT
  have k0 : (0 : Int) ≤ (k : Int) := Int.natCast_nonneg _
  have k2 : (k : Int) ≤ (m : Int) := by omega
  have m1 : (m : Int) ≤ 1000000000 := by omega
  generalize chkT rest = z at HT ⊢
  clear h h9 hk
  go_enter Tryz.func52, Tryz.ntmps52
  go_wp2_with (first | ((with_reducible refine (HT.out _).mono ?_); rintro e w1 ⟨rfl, hb⟩; replace hM := hM.step hb; clear hb) | ((first | with_reducible refine at_load ?_ | ((with_reducible refine at_load_g ?_ ?_); (· rfl))); first | refine nll hM ?_ | refine nlc hM ?_ | refine nlp hM ?_) | ((with_reducible refine at_store ?_); first | (refine nlw hM ?_; clear hM; intro wx hM) | (refine nls hM ?_; clear hM; intro wx hM) | (refine nlt hM ?_; clear hM; intro wx hM)) | ((with_reducible refine at_alloc ?_); refine nlz hM ?_; clear hM; intro gx wx hM) | ((with_reducible refine at_box ?_); first | (refine nlb hM ?_; clear hM; intro gx wx hM) | (refine nlx hM ?_; clear hM; intro gx wx hM)))
  go_ret
  refine ⟨rfl, ?_⟩
  rw [← HX.out]
  exact hM
end
end Go.Proofs.YtlidpdjainmaiaaGreatDoor
