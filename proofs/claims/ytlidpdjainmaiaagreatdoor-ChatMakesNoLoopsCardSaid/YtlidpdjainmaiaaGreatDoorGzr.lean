/- Seat c: the examples of the document. -/
import Derived.Test.YtlidpdjainmaiaaGreatDoorGzq
namespace Go.Cht
open Go Go.Bul
abbrev annB : ByteArray := ⟨#[97, 110, 110]⟩
abbrev hiB : ByteArray := ⟨#[104, 105]⟩
abbrev goB : ByteArray := ⟨#[35, 103, 111]⟩
abbrev relB : ByteArray := ⟨#[114, 101, 108, 97, 121]⟩
abbrev txA : ByteArray := ⟨#[91, 53, 93, 32, 60, 97, 110, 110, 62, 32, 104, 105]⟩
abbrev txB : ByteArray := ⟨#[91, 53, 93, 32, 60, 57, 62, 32, 104, 105]⟩
abbrev txC : ByteArray := ⟨#[91, 53, 93, 32, 60, 97, 110, 110, 62, 32]⟩
theorem dig5 : digN 5 = [53] := digN_small (by decide)
theorem ok_l0 : OkL ⟨5, annB, hiB⟩ := ⟨by decide, by decide, chkT_zero.2 ⟨by decide, by decide, Pr.ascii _ (by decide)⟩⟩
theorem pr_l0 : prL ⟨5, annB, hiB⟩ = nums txA := by
  show 91 :: (digN 5 ++ _) = _
  rw [dig5]
  rfl
theorem txB_is : nums txB = 91 :: (digN 5 ++ (93 :: 32 :: 60 :: ([57] ++ (62 :: 32 :: [104, 105])))) := by rw [dig5]; rfl
theorem txC_is : nums txC = 91 :: (digN 5 ++ (93 :: 32 :: 60 :: ([97, 110, 110] ++ (62 :: 32 :: [])))) := by rw [dig5]; rfl
end Go.Cht
namespace Go.Proofs.YtlidpdjainmaiaaGreatDoor
open Go Go.RowKit Go.Bul Go.Thg Go.Lin Go.Cht Go.Maps
theorem kprint (w : World) (hP : Pow w) : Calls Tryz.prog 29 #[.agg #[.int .i64 5, .string annB, .string hiB]] w fun e w' => e = .returned (.tuple #[.string txA, .int .i64 0]) ∧ Below w.heap.size w w' := by
  have h := printl_any ⟨5, annB, hiB⟩ ok_l0 (by decide) w hP
  rw [pr_l0, bstr_of_nums] at h
  exact h
theorem kparse (w : World) : Calls Tryz.prog 27 #[.string txA] w fun e w' => e = .returned (.tuple #[.agg #[.int .i64 5, .string annB, .string hiB], .int .i64 0, .int .i64 0]) ∧ Below w.heap.size w w' :=
  parse_pr ⟨5, annB, hiB⟩ ok_l0 txA pr_l0.symm (by decide) w
theorem kparseB (w : World) : Calls Tryz.prog 27 #[.string txB] w fun e w' => e = .returned (.tuple #[.agg #[.int .i64 0, .string ⟨#[]⟩, .string ⟨#[]⟩], .int .i64 5, .int .i64 12]) ∧ Below w.heap.size w w' := by
  have h := parse_badnick txB 5 [57] [104, 105] txB_is (by decide) (by decide) (by decide) (by decide) (by decide) w
  rw [dig5] at h
  exact h
theorem kparseC (w : World) : Calls Tryz.prog 27 #[.string txC] w fun e w' => e = .returned (.tuple #[.agg #[.int .i64 0, .string ⟨#[]⟩, .string ⟨#[]⟩], .int .i64 10, .int .i64 4]) ∧ Below w.heap.size w w' := by
  have h := parse_badtext txC 5 [97, 110, 110] [] 4 txC_is (by decide) (by decide) (by decide) (by decide) (by decide) (by decide) (by decide) w
  rw [dig5] at h
  exact h
set_option maxRecDepth 20000 in
set_option maxHeartbeats 4000000 in
theorem known_any (w : World) (hP : Pow w) : Calls Tryz.prog 13 #[] w fun e w' => e = .returned (.bool true) ∧ Below w.heap.size w w' := by
  have hM := Mem.start [] w
  have HP := Lib.hid (fun w' hb => hP.keep (w' := w') hb)
  have H1 := Lib.hid kprint
  have H2 := Lib.hid kparse
  have H3 := Lib.hid kparseB
  have H4 := Lib.hid kparseC
  have H6 := Lib.hid (fun w => new_any goB relB [103, 111] rfl (by decide) (by decide) (by decide) (by decide) w)
  have HPW := Lib.hid hP
  have HHR := Lib.hid (show ∀ (gg m1 m2 : Nat) (w' : World) (L : List Ent) (R : List Thing), Mem [] w (⟨gg, 57, 7, gwA goB abB relB (.slice none 0 0) ((0 : Nat) : Int) m1 m2⟩ :: L) (lT (.slice none 0 0) [] :: R) w' → Calls Tryz.prog 7 #[p1 gg, .agg #[.int .i64 5, .string annB, .string hiB]] w' fun e w'' => e = .returned (.int .i64 0) ∧ ∃ A c, Mem [] w (⟨gg, 57, 7, gwA goB abB relB (.slice A 1 c) ((5 : Nat) : Int) m1 m2⟩ :: L) (lT (.slice A 1 c) [⟨5, annB, hiB⟩] :: R) w'' from fun gg m1 m2 w' L R h => (hear_yes gg goB abB relB annB hiB (.slice none 0 0) 0 5 m1 m2 [] h (UpdL.head _ _ _ _ _) (UpdR.head _ _) (by decide) (by decide) (by decide) (chkL_zero.2 ok_l0) (by decide) (by decide +kernel) (by decide)).mono (by
    rintro e w'' ⟨rfl, A, N, c, h2⟩
    have hN := (gT_len (h2.thing _ (List.Mem.head _))).1
    obtain rfl : N = 1 := hN
    exact ⟨rfl, A, c, h2⟩))
  clear hP
  go_enter Tryz.func13, Tryz.ntmps13
  go_wp2_with (first | ((with_reducible refine (H1.out _ (HP.out _ hM.below)).mono ?_); rintro e w1 ⟨rfl, hb⟩; replace hM := hM.step hb; clear hb) | ((with_reducible refine (H2.out _).mono ?_); rintro e w1 ⟨rfl, hb⟩; replace hM := hM.step hb; clear hb) | ((with_reducible refine (H3.out _).mono ?_); rintro e w1 ⟨rfl, hb⟩; replace hM := hM.step hb; clear hb) | ((with_reducible refine (H4.out _).mono ?_); rintro e w1 ⟨rfl, hb⟩; replace hM := hM.step hb; clear hb) | ((with_reducible refine at_bslice ?_); refine gbs hM rt_st (v := .string jrB) (cs := #[.string jrB]) rfl rfl (by decide) ?_; clear hM; intro gb wb hM) | ((with_reducible refine (nick_any _ hM (List.Mem.head _) HPW.out).mono ?_); rintro e w1 ⟨rfl, hM2⟩; clear hM; have hM := hM2; clear hM2) | ((with_reducible refine (H6.out _).mono ?_); rintro e w1 ⟨gg, m1, m2, rfl, hA1⟩; replace hM := Mem.gNil (hM.frame hA1) 37 3 lnF; clear hA1; simp only [List.cons_append, List.nil_append] at hM) | ((with_reducible refine (HHR.out _ _ _ _ _ _ hM).mono ?_); rintro e w1 ⟨rfl, A5, c5, hM2⟩; clear hM; have hM := hM2; clear hM2) | ((with_reducible refine (waiting_any _ 1 _ _ _ _ _ _ _ _ _ _ _ _ _ _ hM (List.Mem.head _) (List.Mem.head _) (by decide)).mono ?_); rintro e w1 ⟨A6, c6, rfl, hM2⟩; clear hM; have hM := hM2; clear hM2) | ((first | with_reducible refine at_load ?_ | ((with_reducible refine at_load_g ?_ ?_); (· rfl))); first | refine nll hM ?_ | refine nlc hM ?_ | refine nlp hM ?_) | ((with_reducible refine at_store ?_); first | (refine nlw hM ?_; clear hM; intro wx hM) | (refine nls hM ?_; clear hM; intro wx hM) | (refine nlt hM ?_; clear hM; intro wx hM)) | ((with_reducible refine at_alloc ?_); refine nlz hM ?_; clear hM; intro gx wx hM) | ((with_reducible refine at_box ?_); first | (refine nlb hM ?_; clear hM; intro gx wx hM) | (refine nlx hM ?_; clear hM; intro gx wx hM)))
  go_ret
  exact ⟨rfl, hM.below⟩
theorem Known_any (w : World) (hP : Pow w) : Calls Tryz.prog 4 #[] w fun e w' => e = .returned (.bool true) ∧ Below w.heap.size w w' := by
  have hM := Mem.start [] w
  have H := Lib.hid (known_any w hP)
  clear hP
  go_enter Tryz.func4, Tryz.ntmps4
  go_wp2_with ((with_reducible refine H.out.mono ?_); rintro e w1 ⟨rfl, hb⟩; replace hM := hM.step hb; clear hb)
  go_ret
  exact ⟨rfl, hM.below⟩
end Go.Proofs.YtlidpdjainmaiaaGreatDoor
