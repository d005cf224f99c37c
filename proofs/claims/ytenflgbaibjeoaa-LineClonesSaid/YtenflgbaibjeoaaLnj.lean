/- Contract of Receive. -/
import Derived.Test.YtenflgbaibjeoaaLnh
namespace Go.Thg
theorem Mem.toFront {G : List Nat} {w0 w : World} {L : List Ent} (l1 : List Thing) {a : Thing} {l2 : List Thing} (h : Mem G w0 L (l1 ++ a :: l2) w) : Mem G w0 L (a :: (l1 ++ l2)) w := h.perm List.perm_middle.symm
theorem Mem.fromFront {G : List Nat} {w0 w : World} {L : List Ent} (l1 : List Thing) {a : Thing} {l2 : List Thing} (h : Mem G w0 L (a :: (l1 ++ l2)) w) : Mem G w0 L (l1 ++ a :: l2) w := h.perm List.perm_middle
end Go.Thg
namespace Go.Proofs.Ytenflgbaibjeoaa
open Go Go.RowKit Go.Bul Go.Thg Go.Lin
theorem take_cases (xs : List Nat) {most : Int} (h : 0 ≤ most) : ∃ k : Nat, ((most < (xs.length : Int) ∧ most = (k : Int)) ∨ ((xs.length : Int) ≤ most ∧ k = xs.length)) ∧ xs.take k = xs.take most.toNat ∧ xs.drop k = xs.drop most.toNat := by
  by_cases hl : most < (xs.length : Int)
  · exact ⟨most.toNat, .inl ⟨hl, by omega⟩, rfl, rfl⟩
  · refine ⟨xs.length, .inr ⟨by omega, rfl⟩, ?_, ?_⟩
    · rw [List.take_of_length_le (Nat.le_refl _), List.take_of_length_le (by omega)]
    · rw [List.drop_of_length_le (Nat.le_refl _), List.drop_of_length_le (by omega)]
section
variable {G : List Nat} {w0 w : World} {L : List Ent} {R : List Thing} {p : Nat} {S : Ln}
set_option maxRecDepth 20000 in
theorem recv_0 (most : Int) (h : HasLine G w0 L R p S w) (hm : 0 ≤ most) (hl : S.e0.arr.length ≤ 1000000000) :
    Calls Try.prog 18 #[.pointer (some ⟨p, 0, none⟩), .int .i64 0, .int .i64 most] w fun e w' => e = .returned (.tuple #[.string (bstr (S.e0.arr.take most.toNat)), .int .i64 0]) ∧ HasLine G w0 L R p { S with e0 := { S.e0 with arr := S.e0.arr.drop most.toNat } } w' := by
  obtain ⟨x, hM⟩ := h.open
  have HS := Lib.hid side_0
  obtain ⟨r, d, q, ws, now, up, ses, E, E1⟩ := S
  simp only at hl hM ⊢
  obtain ⟨k, hk, e1, e2⟩ := take_cases E.arr hm
  rw [← e1, ← e2]
  have c1 : decide (most < 0) = false := by simpa using hm
  have hM1 := Mem.toFront [_, _, _] hM
  have HT := Lib.hid (take_nat G w0 w L _ p 9 13 88 _ _ E.arr most k hM1 rfl (by decide) hl hk)
  clear h e1 e2 hk hM hM1
  generalize E.arr.take k = T at HT ⊢
  generalize E.arr.drop k = D at HT ⊢
  go_enter Try.func18, Try.ntmps18
  go_wp2_with (first | ((with_reducible refine (HS.out _).mono ?_); rintro e w2 ⟨rfl, rfl⟩) | ((first | with_reducible refine at_load ?_ | ((with_reducible refine at_load_g ?_ ?_); (· rfl))); first | refine lc hM ?_ | refine ll hM ?_ | refine lp hM ?_) | ((with_reducible refine at_store ?_); first | (refine ls hM ?_; clear hM; intro wx hM) | (refine lw hM ?_; clear hM; intro wx hM) | (refine lt hM ?_; clear hM; intro wx hM)) | ((with_reducible refine at_alloc ?_); refine lz hM ?_; clear hM; intro gx wx hM) | ((with_reducible refine at_box ?_); refine lb hM ?_; clear hM; intro gx wx hM))
  refine HT.out.mono ?_
  rintro e w1 ⟨b, v', rfl, hM⟩
  obtain ⟨Ab, cb, rfl, hcb⟩ := bT_form (hM.thing _ (List.Mem.head _))
  obtain ⟨Av, cv', rfl, hcv'⟩ := bT_form (hM.thing _ (List.Mem.tail _ (List.Mem.head _)))
  have hstr := reads_str (bT_reads (hM.thing _ (List.Mem.head _))).1 cb
  have hM2 := Mem.fromFront [_, _, _] (hM.subR (List.sublist_cons_self _ _))
  clear hM hcb hcv'
  go_wp2_with (first | ((first | with_reducible refine at_load ?_ | ((with_reducible refine at_load_g ?_ ?_); (· rfl))); first | refine lc hM ?_ | refine ll hM ?_ | refine lp hM ?_) | ((with_reducible refine at_store ?_); first | (refine ls hM ?_; clear hM; intro wx hM) | (refine lw hM ?_; clear hM; intro wx hM) | (refine lt hM ?_; clear hM; intro wx hM)) | ((with_reducible refine at_alloc ?_); refine lz hM ?_; clear hM; intro gx wx hM) | ((with_reducible refine at_box ?_); refine lb hM ?_; clear hM; intro gx wx hM))
  go_ret2
  exact ⟨rfl, HasLine.close (x := { x with a0 := ⟨Av, cv'⟩ }) hM2⟩
set_option maxRecDepth 20000 in
theorem recv_1 (most : Int) (h : HasLine G w0 L R p S w) (hm : 0 ≤ most) (hl : S.e1.arr.length ≤ 1000000000) :
    Calls Try.prog 18 #[.pointer (some ⟨p, 0, none⟩), .int .i64 1, .int .i64 most] w fun e w' => e = .returned (.tuple #[.string (bstr (S.e1.arr.take most.toNat)), .int .i64 0]) ∧ HasLine G w0 L R p { S with e1 := { S.e1 with arr := S.e1.arr.drop most.toNat } } w' := by
  obtain ⟨x, hM⟩ := h.open
  have HS := Lib.hid side_1
  obtain ⟨r, d, q, ws, now, up, ses, E0, E⟩ := S
  simp only at hl hM ⊢
  obtain ⟨k, hk, e1, e2⟩ := take_cases E.arr hm
  rw [← e1, ← e2]
  have c1 : decide (most < 0) = false := by simpa using hm
  have hM1 := Mem.toFront [_, _, _, _, _, _] hM
  have HT := Lib.hid (take_nat G w0 w L _ p 12 13 88 _ _ E.arr most k hM1 rfl (by decide) hl hk)
  clear h e1 e2 hk hM hM1
  generalize E.arr.take k = T at HT ⊢
  generalize E.arr.drop k = D at HT ⊢
  go_enter Try.func18, Try.ntmps18
  go_wp2_with (first | ((with_reducible refine (HS.out _).mono ?_); rintro e w2 ⟨rfl, rfl⟩) | ((first | with_reducible refine at_load ?_ | ((with_reducible refine at_load_g ?_ ?_); (· rfl))); first | refine lc hM ?_ | refine ll hM ?_ | refine lp hM ?_) | ((with_reducible refine at_store ?_); first | (refine ls hM ?_; clear hM; intro wx hM) | (refine lw hM ?_; clear hM; intro wx hM) | (refine lt hM ?_; clear hM; intro wx hM)) | ((with_reducible refine at_alloc ?_); refine lz hM ?_; clear hM; intro gx wx hM) | ((with_reducible refine at_box ?_); refine lb hM ?_; clear hM; intro gx wx hM))
  refine HT.out.mono ?_
  rintro e w1 ⟨b, v', rfl, hM⟩
  obtain ⟨Ab, cb, rfl, hcb⟩ := bT_form (hM.thing _ (List.Mem.head _))
  obtain ⟨Av, cv', rfl, hcv'⟩ := bT_form (hM.thing _ (List.Mem.tail _ (List.Mem.head _)))
  have hstr := reads_str (bT_reads (hM.thing _ (List.Mem.head _))).1 cb
  have hM2 := Mem.fromFront [_, _, _, _, _, _] (hM.subR (List.sublist_cons_self _ _))
  clear hM hcb hcv'
  go_wp2_with (first | ((first | with_reducible refine at_load ?_ | ((with_reducible refine at_load_g ?_ ?_); (· rfl))); first | refine lc hM ?_ | refine ll hM ?_ | refine lp hM ?_) | ((with_reducible refine at_store ?_); first | (refine ls hM ?_; clear hM; intro wx hM) | (refine lw hM ?_; clear hM; intro wx hM) | (refine lt hM ?_; clear hM; intro wx hM)) | ((with_reducible refine at_alloc ?_); refine lz hM ?_; clear hM; intro gx wx hM) | ((with_reducible refine at_box ?_); refine lb hM ?_; clear hM; intro gx wx hM))
  go_ret2
  exact ⟨rfl, HasLine.close (x := { x with a1 := ⟨Av, cv'⟩ }) hM2⟩
set_option maxRecDepth 20000 in
theorem recv_no (s most : Int) (h : HasLine G w0 L R p S w) (hb : (s ≠ 0 ∧ s ≠ 1) ∨ most < 0) :
    Calls Try.prog 18 #[.pointer (some ⟨p, 0, none⟩), .int .i64 s, .int .i64 most] w fun e w' => e = .returned (.tuple #[.string ⟨#[]⟩, .int .i64 2]) ∧ w = w' := by
  obtain ⟨x, hM⟩ := h.open
  by_cases h0 : s = 0
  · subst h0
    have HS := Lib.hid side_0
    have c1 : decide (most < 0) = true := by simp; omega
    clear h hb
    go_enter Try.func18, Try.ntmps18
    go_wp2_with (first | ((with_reducible refine (HS.out _).mono ?_); rintro e w2 ⟨rfl, rfl⟩) | ((first | with_reducible refine at_load ?_ | ((with_reducible refine at_load_g ?_ ?_); (· rfl))); first | refine lc hM ?_ | refine ll hM ?_ | refine lp hM ?_) | ((with_reducible refine at_store ?_); first | (refine ls hM ?_; clear hM; intro wx hM) | (refine lw hM ?_; clear hM; intro wx hM) | (refine lt hM ?_; clear hM; intro wx hM)) | ((with_reducible refine at_alloc ?_); refine lz hM ?_; clear hM; intro gx wx hM) | ((with_reducible refine at_box ?_); refine lb hM ?_; clear hM; intro gx wx hM))
    go_ret2
    exact ⟨rfl, rfl⟩
  · by_cases h1 : s = 1
    · subst h1
      have HS := Lib.hid side_1
      have c1 : decide (most < 0) = true := by simp; omega
      clear h hb h0
      go_enter Try.func18, Try.ntmps18
      go_wp2_with (first | ((with_reducible refine (HS.out _).mono ?_); rintro e w2 ⟨rfl, rfl⟩) | ((first | with_reducible refine at_load ?_ | ((with_reducible refine at_load_g ?_ ?_); (· rfl))); first | refine lc hM ?_ | refine ll hM ?_ | refine lp hM ?_) | ((with_reducible refine at_store ?_); first | (refine ls hM ?_; clear hM; intro wx hM) | (refine lw hM ?_; clear hM; intro wx hM) | (refine lt hM ?_; clear hM; intro wx hM)) | ((with_reducible refine at_alloc ?_); refine lz hM ?_; clear hM; intro gx wx hM) | ((with_reducible refine at_box ?_); refine lb hM ?_; clear hM; intro gx wx hM))
      go_ret2
      exact ⟨rfl, rfl⟩
    · have HS := Lib.hid (side_no h0 h1)
      clear h hb h0 h1
      go_enter Try.func18, Try.ntmps18
      go_wp2_with (first | ((with_reducible refine (HS.out _).mono ?_); rintro e w2 ⟨rfl, rfl⟩) | ((first | with_reducible refine at_load ?_ | ((with_reducible refine at_load_g ?_ ?_); (· rfl))); first | refine lc hM ?_ | refine ll hM ?_ | refine lp hM ?_) | ((with_reducible refine at_store ?_); first | (refine ls hM ?_; clear hM; intro wx hM) | (refine lw hM ?_; clear hM; intro wx hM) | (refine lt hM ?_; clear hM; intro wx hM)) | ((with_reducible refine at_alloc ?_); refine lz hM ?_; clear hM; intro gx wx hM) | ((with_reducible refine at_box ?_); refine lb hM ?_; clear hM; intro gx wx hM))
      go_ret2
      exact ⟨rfl, rfl⟩
end
end Go.Proofs.Ytenflgbaibjeoaa
