/- Seat c: New, PrintLine. -/
import Derived.Test.YtlidpdjainmaiaaGreatDoorGzn
namespace Go.Proofs.YtlidpdjainmaiaaGreatDoor
open Go Go.RowKit Go.Bul Go.Thg Go.Lin Go.Cht Go.Maps
set_option maxRecDepth 20000 in
set_option maxHeartbeats 2000000 in
theorem new_any (rm nk : ByteArray) (t : List Nat) (hs : nums rm = 35 :: t) (h1 : 1 ≤ t.length) (h3 : t.length ≤ 30) (hall : ∀ b ∈ t, lowC b = true) (hn : nickB (nums nk) = true) (w : World) :
    Calls Tryz.prog 5 #[.string rm, .string abB, .string nk] w fun e w' => ∃ g m1 m2, e = .returned (.tuple #[p1 g, .int .i64 0]) ∧ Mem [] w [⟨g, 57, 7, gwA rm abB nk (.slice none 0 0) ((0 : Nat) : Int) m1 m2⟩] [mapT m2 (fun _ => none), mapT m1 (fun _ => none)] w' := by
  have hM := Mem.start [] w
  have HR := Lib.hid (fun w => room_yes rm t hs h1 h3 hall w)
  have HC := Lib.hid gcheck_ab
  have HN := Lib.hid (fun w => isNick_any nk w)
  rw [hn] at HN
  clear hs h1 h3 hall hn
  go_enter Tryz.func5, Tryz.ntmps5
  go_wp2_with (first | ((with_reducible refine (HR.out _).mono ?_); rintro e w1 ⟨rfl, hb⟩; replace hM := hM.step hb; clear hb) | ((with_reducible refine (HC.out _).mono ?_); rintro e w1 ⟨rfl, hb⟩; replace hM := hM.step hb; clear hb) | ((with_reducible refine (HN.out _).mono ?_); rintro e w1 ⟨rfl, hb⟩; replace hM := hM.step hb; clear hb) | ((with_reducible refine at_mmake ?_); refine nmm hM ?_; clear hM; intro b1 wm hM; refine nmm hM ?_; clear hM; intro b2 wm2 hM) | ((with_reducible refine at_box ?_); refine nlb hM ?_ (n := 7) (hn := rfl); clear hM; intro gg wx hM))
  go_ret2
  exact ⟨gg, b1, b2, rfl, hM⟩
set_option maxRecDepth 20000 in
set_option maxHeartbeats 2000000 in
theorem printl_any (l : Ln) (h : OkL l) (hsz : l.nick.size ≤ 1000) (w : World) (hP : Pow w) : Calls Tryz.prog 29 #[.agg (lnA l)] w fun e w' => e = .returned (.tuple #[.string (bstr (prL l)), .int .i64 0]) ∧ Below w.heap.size w w' := by
  have hM := Mem.start [] w
  have ht : l.text.size ≤ 400 := by
    have := (chkT_zero.1 h.text).2.1
    rwa [nums_length] at this
  have HC := Lib.hid (show ∀ w, Calls Tryz.prog 6 #[.agg (lnA l)] w fun e w' => e = .returned (.int .i64 0) ∧ Below w.heap.size w w' from fun w => by
    have h1 := lcheck_any (l.m : Nat) l.nick l.text w (by omega)
    rwa [chkL_zero.2 h] at h1)
  have HP := Lib.hid (fun w' hb => hP.keep (w' := w') hb)
  have hm := h.m
  have HL := Lib.hid (fun w hT => print_any l (by omega) hsz (by omega) w hT)
  clear h hsz ht hP hm
  go_enter Tryz.func29, Tryz.ntmps29
  go_wp2_with (first | ((with_reducible refine at_box ?_); refine nlb hM ?_ (cs := lnA l) (n := 3) (hn := rfl); clear hM; intro gb wb hM) | ((with_reducible refine (HC.out _).mono ?_); rintro e w1 ⟨rfl, hb⟩; replace hM := hM.step hb; clear hb) | ((with_reducible refine (HL.out _ (HP.out _ hM.below)).mono ?_); rintro e w1 ⟨rfl, hb⟩; replace hM := hM.step hb; clear hb) | ((first | with_reducible refine at_load ?_ | ((with_reducible refine at_load_g ?_ ?_); (· rfl))); first | refine nll hM ?_ | refine nlc hM ?_ | refine nlp hM ?_) | ((with_reducible refine at_store ?_); first | (refine nlw hM ?_; clear hM; intro wx hM) | (refine nls hM ?_; clear hM; intro wx hM) | (refine nlt hM ?_; clear hM; intro wx hM)) | ((with_reducible refine at_alloc ?_); refine nlz hM ?_; clear hM; intro gx wx hM) | ((with_reducible refine at_box ?_); first | (refine nlb hM ?_; clear hM; intro gx wx hM) | (refine nlx hM ?_; clear hM; intro gx wx hM)))
  go_ret2
  exact ⟨rfl, hM.below⟩
end Go.Proofs.YtlidpdjainmaiaaGreatDoor
