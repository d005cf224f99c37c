/- LineStreams: the walk. -/
import Derived.Test.YtenflgbaibjeoaaLqk
import Derived.Test.YtenflgbaibjeoaaLqj
import Derived.Test.YtenflgbaibjeoaaLqa
import Derived.Test.YtenflgbaibjeoaaRgm
import Derived.Deep.CutRange
import Derived.Deep.CutBlock
namespace Go.Proofs.Ytenflgbaibjeoaa
open Go Go.RowKit Go.Bul Go.Thg Go.Lin
attribute [local irreducible] HasLine newS chk connected
set_option maxRecDepth 20000 in
set_option maxHeartbeats 80000000 in
theorem streams_any (r d p : Int) (A : Option Addr) (n c : Nat) (ws : List Win) (B : Option Addr) (m c3 : Nat) (os : List OpR) (w : World) (hI : WinsIn w A n c ws) (hO : OpsIn w B m os) :
    Calls Try.prog 5 #[cfgV r d p A n c, .slice B m c3] w fun e w' => e = .returned (.bool true) ∧ Below w.heap.size w w' := by
  have hM := Mem.start [] w
  have HC := Lib.hid (fun w' hb => cut_in (r := r) (d := d) (p := p) (hI.keep (w' := w') hb))
  obtain ⟨us, hus⟩ : ∃ us, ws.take 40 = us := ⟨_, rfl⟩
  have hul : us.length ≤ 40 := by rw [← hus, List.length_take]; omega
  rw [hus] at HC
  have HU := Lib.hid hul
  clear hus hI
  have HO := Lib.hid hO
  clear hO
  by_cases hz : chk r d p us = 0
  · have HN := Lib.hid (fun (A : Option Addr) (c : Nat) w hW => new_any (w := w) r d p A us.length c us hW (by omega) hz)
    have HK := Lib.hid (ok_new hz)
    have HT := Lib.hid (str_new (r := r) (d := d) (p := p) (ws := us))
    generalize newS r d p us = S0 at HN HK HT
    clear hz hul
    go_enter Try.func5, Try.ntmps5
    go_wp2_with (first | ((with_reducible refine (known_any _).mono ?_); rintro e w1 ⟨rfl, hb⟩; replace hM := hM.step hb; clear hb) | ((with_reducible refine (HC.out _ hM.below).mono ?_); rintro e w1 ⟨A1, c1', rfl, hb⟩; replace hM := hM.newThing hb; clear hb) | ((with_reducible refine (config_in (wT_in hM (List.Mem.head _)) HU.out).mono ?_); rintro e w1 ⟨A2, c2, rfl, hb⟩; replace hM := hM.newThing hb; clear hb) | ((with_reducible refine (HN.out _ _ _ (winT_in hM (List.Mem.head _))).mono ?_); rintro e w1 ⟨g, rfl, hH⟩; obtain ⟨fp, hM2⟩ := (HasLine.frame hM hH).ex; clear hM hH; have hM := hM2; clear hM2) | ((with_reducible refine (ses_any (HasLine.of hM)).mono ?_); rintro e w1 ⟨rfl, rfl⟩) | ((first | with_reducible refine at_load ?_ | ((with_reducible refine at_load_g ?_ ?_); (· rfl))); first | refine lc hM ?_ | refine ll hM ?_ | refine lp hM ?_) | ((with_reducible refine at_store ?_); first | (refine ls hM ?_; clear hM; intro wx hM) | (refine lw hM ?_; clear hM; intro wx hM) | (refine lt hM ?_; clear hM; intro wx hM)) | ((with_reducible refine at_alloc ?_); refine lz hM ?_; clear hM; intro gx wx hM) | ((with_reducible refine at_box ?_); refine lb hM ?_; clear hM; intro gx wx hM))
    obtain ⟨gt, hgt⟩ := hM.name1
    obtain ⟨gs, hgs⟩ := (hM.subL (List.sublist_cons_self _ _)).name1
    subst hgt hgs
    have M0 := Lib.hid ((hM.subL (L' := [_, _]) (List.Sublist.cons_cons _ (List.Sublist.cons_cons _ (List.nil_sublist _)))).subR (R' := [_]) (List.Sublist.cons_cons _ (List.nil_sublist _)))
    clear hM HC HN
    go_loopw [10, 7] (fun i u wr => ∃ (k : Nat) (S : Ln) (T0 T1 G0 G1 : List Nat) (fp : List Nat), k ≤ m ∧ k ≤ 30 ∧ i = .int .i64 (k : Nat) ∧ u = .int .i64 S.ses ∧ Hid (Ok S ∧ Str S.ses T0 T1 G0 G1 S ∧ T0.length ≤ 200 * k ∧ T1.length ≤ 200 * k) ∧ Mem [] w [⟨gt, 50, 2, #[.string (bstr G0), .string (bstr G1)]⟩, ⟨gs, 50, 2, #[.string (bstr T0), .string (bstr T1)]⟩] [lineT fp g S] wr) (fun i _ _ => 30 - (intOf i).toNat)
    case atStart => exact ⟨0, S0, [], [], [], [], _, by omega, by omega, rfl, rfl, Lib.hid ⟨HK.out, by rw [HT.out.ses]; exact HT.out, by simp, by simp⟩, M0.out⟩
    case round =>
      obtain ⟨k, S, T0, T1, G0, G1, fp, hk, hk30, rfl, rfl, HS, hM⟩ := hrel
      clear M0
      by_cases hlt : k < m ∧ k < 30
      · obtain ⟨hkm, hk3⟩ := hlt
        have hkl : k < os.length := by have := HO.out.len; omega
        obtain ⟨gb, ob, rfl, hgl, _⟩ := HO.out.at_ (by omega)
        have HX := Lib.hid ((HO.out.keep hM.below).cell k hkl)
        have hok := HO.out.ok _ (List.getElem_mem hkl)
        obtain ⟨o, ho⟩ : ∃ o, o = os[k] := ⟨_, rfl⟩
        rw [← ho] at HX hok
        clear ho
        have hk0 : (0 : Int) ≤ (k : Int) := Int.natCast_nonneg _
        have hk1 : (k : Int) < (m : Int) := by omega
        have hk2 : (k : Int) < 30 := by omega
        have HB := Lib.hid (fun w => bound_any o w hok)
        have hok2 := boundO_ok hok
        have htx := boundO_size o
        generalize boundO o = v at HB hok2 htx
        obtain ⟨kk, sd, tx, nn⟩ := v
        obtain ⟨b1, b2, b3, b4, b5, b6⟩ := hok2
        simp only at b1 b2 b3 b4 b5 b6 htx
        obtain ⟨s, hs⟩ : ∃ s, wrap64 ((IntKind.u64.wrap sd).tmod 2) = s := ⟨_, rfl⟩
        have hs01 : s = 0 ∨ s = 1 := by
          have e1 : IntKind.u64.wrap sd = sd % 18446744073709551616 := by simp [IntKind.wrap, IntKind.signed, IntKind.bits]
          rw [e1, Int.tmod_eq_emod_of_nonneg (by omega)] at hs
          unfold wrap64 at hs
          omega
        go_upto_block 2 with (first | ((with_reducible refine at_load ?_); refine lr HX.out ?_) | ((with_reducible refine (HB.out _).mono ?_); rintro e w1 ⟨rfl, hb⟩; replace hM := hM.step hb; clear hb) | (refine lz hM ?_; clear hM; intro gx wx hM) | ((first | with_reducible refine at_load ?_ | ((with_reducible refine at_load_g ?_ ?_); (· rfl))); first | refine lc hM ?_ | refine ll hM ?_ | refine lp hM ?_) | ((with_reducible refine at_store ?_); first | (refine ls hM ?_; clear hM; intro wx hM) | (refine lw hM ?_; clear hM; intro wx hM) | (refine lt hM ?_; clear hM; intro wx hM)) | ((with_reducible refine at_alloc ?_); refine lz hM ?_; clear hM; intro gx wx hM) | ((with_reducible refine at_box ?_); refine lb hM ?_; clear hM; intro gx wx hM))
        clear hs hgl HB HX b1 b2 b3 b4
        go_cut [13, 14] from 39 to 135 (fun _ _ wc => ∃ (S' : Ln) (T0' T1' G0' G1' : List Nat) (fp' : List Nat), Hid (Ok S' ∧ (Str S.ses T0' T1' G0' G1' S' ∨ (S'.ses ≠ S.ses ∧ Str S'.ses [] [] [] [] S')) ∧ T0'.length ≤ 200 * (k + 1) ∧ T1'.length ≤ 200 * (k + 1)) ∧ Mem [] w [⟨gx, 52, 4, opCs ⟨kk, sd, tx, nn⟩⟩, ⟨gt, 50, 2, #[.string (bstr G0'), .string (bstr G1')]⟩, ⟨gs, 50, 2, #[.string (bstr T0'), .string (bstr T1')]⟩] [lineT fp' g S'] wc)
        case first =>
          have wr1 : IntKind.i64.wrap 1 = 1 := by kernel_rfl
          have wr0 : IntKind.i64.wrap 0 = 0 := by kernel_rfl
          obtain ⟨s1, s2, s3, s4⟩ := HS.out
          have hnw := s1.now1
          have hnw2 := s1.now2
          have hz := s2.sz (B := 200 * k) s3 s4
          have hz2 := hz.len
          have hn0 : S.e0.arr.length ≤ 1000000000 := by omega
          have hn1 : S.e1.arr.length ≤ 1000000000 := by omega
          rcases (show kk % 7 = 0 ∨ kk % 7 = 1 ∨ kk % 7 = 2 ∨ kk % 7 = 3 ∨ kk % 7 = 4 ∨ kk % 7 = 5 ∨ kk % 7 = 6 by omega) with hq | hq | hq | hq | hq | hq | hq
          · rcases hs01 with rfl | rfl
            · by_cases hE : sendE S 0 tx.size = 0
              · have hE2 := hE
                unfold sendE at hE2
                have hup : S.up = true := by
                  cases hu : S.up with
                  | true => rfl
                  | false => rw [hu] at hE2; simp at hE2
                have HD := Lib.hid (fun w' (h : Mem [] w [⟨gx, 52, 4, opCs ⟨kk, sd, tx, nn⟩⟩, ⟨gt, 50, 2, #[.string (bstr G0), .string (bstr G1)]⟩, ⟨gs, 50, 2, #[.string (bstr T0), .string (bstr T1)]⟩] [lineT fp g S] w') => send_0 tx (HasLine.of h) hup (by omega))
                have HUP := Lib.hid hup
                have c4 : ¬ (9223372036854775807 < (bstr T1).size + tx.size) := by rw [bstr_size]; omega
                clear s1 s2 s3 s4 hz hz2 hE hE2 hup
                go_wp2_with (first | ((with_reducible refine (HD.out _ hM).mono ?_); rintro e w1 ⟨rfl, hH⟩; obtain ⟨fp2, hM2⟩ := hH.ex; clear hM hH; have hM := hM2; clear hM2) | ((first | with_reducible refine at_load ?_ | ((with_reducible refine at_load_g ?_ ?_); (· rfl))); first | refine lc hM ?_ | refine ll hM ?_ | refine lp hM ?_) | ((with_reducible refine at_store ?_); first | (refine ls hM ?_; clear hM; intro wx hM) | (refine lw hM ?_; clear hM; intro wx hM) | (refine lt hM ?_; clear hM; intro wx hM)) | ((with_reducible refine at_alloc ?_); refine lz hM ?_; clear hM; intro gx wx hM) | ((with_reducible refine at_box ?_); refine lb hM ?_; clear hM; intro gx wx hM))
                refine wp_region_allB hM 8 (by kernel_rfl) ?_
                clear hM
                intro wd hM
                have HM0 := Lib.hid hM
                have hS := Below.refl wd.heap.size wd
                refine wpAllT_takes [0, 1, 2, 3, 4, 5, 6, 7] (by kernel_rfl) (fun _ _ _ _ _ h => h) hS (by kernel_rfl) ?_
                simp only [pickOps, List.filterMap_cons, List.filterMap_nil, List.getElem?_cons_zero, List.getElem?_cons_succ]
                repeat ((with_reducible apply wpHeld_step); (· rfl); (· (intro wq hSw; first | (go_simp; rfl) | (have hM' := HM0.out.step hSw; first | exact yields_load (C := fun _ => True) (qc hM') rfl | exact yields_load (C := fun _ => True) (ql hM') rfl | exact yields_load (C := fun _ => True) (qp hM') rfl | fail))); intro K hK; go_simp; (with_reducible refine hK _ ?_); clear hK K)
                refine wpHeld_nil ?_
                refine wpAllT_one 8 rfl (by kernel_rfl) ?_
                refine ls hM ?_ (v := .string (bstr T1 ++ tx))
                clear hM hS HM0
                intro wx hM
                refine wpList_then ⟨.inl (by kernel_rfl), wpAllT_drop (by kernel_rfl) (wpAll_done (by kernel_rfl) ?_)⟩
                go_wp2_with fail
                go_meet
                case rel =>
                  obtain ⟨s1, s2, s3, s4⟩ := HS.out
                  have hz := s2.sz (B := 200 * k) s3 s4
                  have htl := nums_length tx
                  have e : bstr T1 ++ tx = bstr (T1 ++ nums tx) := by rw [← bstr_app, bstr_of_nums]
                  rw [e] at hM
                  exact ⟨_, T0, T1 ++ nums tx, G0, G1, fp2, Lib.hid ⟨ok_send0 s1 hz (by omega) (by omega), .inl (str_send0 s2 HUP.out), by first | omega | (rw [List.length_append]; omega), by first | omega | (rw [List.length_append]; omega)⟩, hM⟩
              · obtain ⟨z, hzz⟩ : ∃ z, sendE S 0 tx.size = z := ⟨_, rfl⟩
                have HD := Lib.hid (fun w' (h : Mem [] w [⟨gx, 52, 4, opCs ⟨kk, sd, tx, nn⟩⟩, ⟨gt, 50, 2, #[.string (bstr G0), .string (bstr G1)]⟩, ⟨gs, 50, 2, #[.string (bstr T0), .string (bstr T1)]⟩] [lineT fp g S] w') => send_no 0 tx (HasLine.of h) z hzz (by rw [← hzz]; exact hE) (by omega))
                have c5 : (z == 0) = false := by rw [hzz] at hE; simpa using hE
                clear s1 s2 s3 s4 hz hz2 hE hzz
                go_wp2_with (first | ((with_reducible refine (HD.out _ hM).mono ?_); rintro e w1 ⟨rfl, rfl⟩) | ((first | with_reducible refine at_load ?_ | ((with_reducible refine at_load_g ?_ ?_); (· rfl))); first | refine lc hM ?_ | refine ll hM ?_ | refine lp hM ?_) | ((with_reducible refine at_store ?_); first | (refine ls hM ?_; clear hM; intro wx hM) | (refine lw hM ?_; clear hM; intro wx hM) | (refine lt hM ?_; clear hM; intro wx hM)) | ((with_reducible refine at_alloc ?_); refine lz hM ?_; clear hM; intro gx wx hM) | ((with_reducible refine at_box ?_); refine lb hM ?_; clear hM; intro gx wx hM))
                go_meet
                case rel =>
                  obtain ⟨s1, s2, s3, s4⟩ := HS.out
                  exact ⟨_, T0, T1, G0, G1, fp, Lib.hid ⟨s1, .inl s2, by omega, by omega⟩, hM⟩
            · by_cases hE : sendE S 1 tx.size = 0
              · have hE2 := hE
                unfold sendE at hE2
                have hup : S.up = true := by
                  cases hu : S.up with
                  | true => rfl
                  | false => rw [hu] at hE2; simp at hE2
                have HD := Lib.hid (fun w' (h : Mem [] w [⟨gx, 52, 4, opCs ⟨kk, sd, tx, nn⟩⟩, ⟨gt, 50, 2, #[.string (bstr G0), .string (bstr G1)]⟩, ⟨gs, 50, 2, #[.string (bstr T0), .string (bstr T1)]⟩] [lineT fp g S] w') => send_1 tx (HasLine.of h) hup (by omega))
                have HUP := Lib.hid hup
                have c4 : ¬ (9223372036854775807 < (bstr T0).size + tx.size) := by rw [bstr_size]; omega
                clear s1 s2 s3 s4 hz hz2 hE hE2 hup
                go_wp2_with (first | ((with_reducible refine (HD.out _ hM).mono ?_); rintro e w1 ⟨rfl, hH⟩; obtain ⟨fp2, hM2⟩ := hH.ex; clear hM hH; have hM := hM2; clear hM2) | ((first | with_reducible refine at_load ?_ | ((with_reducible refine at_load_g ?_ ?_); (· rfl))); first | refine lc hM ?_ | refine ll hM ?_ | refine lp hM ?_) | ((with_reducible refine at_store ?_); first | (refine ls hM ?_; clear hM; intro wx hM) | (refine lw hM ?_; clear hM; intro wx hM) | (refine lt hM ?_; clear hM; intro wx hM)) | ((with_reducible refine at_alloc ?_); refine lz hM ?_; clear hM; intro gx wx hM) | ((with_reducible refine at_box ?_); refine lb hM ?_; clear hM; intro gx wx hM))
                refine wp_region_allB hM 8 (by kernel_rfl) ?_
                clear hM
                intro wd hM
                have HM0 := Lib.hid hM
                have hS := Below.refl wd.heap.size wd
                refine wpAllT_takes [0, 1, 2, 3, 4, 5, 6, 7] (by kernel_rfl) (fun _ _ _ _ _ h => h) hS (by kernel_rfl) ?_
                simp only [pickOps, List.filterMap_cons, List.filterMap_nil, List.getElem?_cons_zero, List.getElem?_cons_succ]
                repeat ((with_reducible apply wpHeld_step); (· rfl); (· (intro wq hSw; first | (go_simp; rfl) | (have hM' := HM0.out.step hSw; first | exact yields_load (C := fun _ => True) (qc hM') rfl | exact yields_load (C := fun _ => True) (ql hM') rfl | exact yields_load (C := fun _ => True) (qp hM') rfl | fail))); intro K hK; go_simp; (with_reducible refine hK _ ?_); clear hK K)
                refine wpHeld_nil ?_
                refine wpAllT_one 8 rfl (by kernel_rfl) ?_
                refine ls hM ?_ (v := .string (bstr T0 ++ tx))
                clear hM hS HM0
                intro wx hM
                refine wpList_then ⟨.inl (by kernel_rfl), wpAllT_drop (by kernel_rfl) (wpAll_done (by kernel_rfl) ?_)⟩
                go_wp2_with fail
                go_meet
                case rel =>
                  obtain ⟨s1, s2, s3, s4⟩ := HS.out
                  have hz := s2.sz (B := 200 * k) s3 s4
                  have htl := nums_length tx
                  have e : bstr T0 ++ tx = bstr (T0 ++ nums tx) := by rw [← bstr_app, bstr_of_nums]
                  rw [e] at hM
                  exact ⟨_, T0 ++ nums tx, T1, G0, G1, fp2, Lib.hid ⟨ok_send1 s1 hz (by omega) (by omega), .inl (str_send1 s2 HUP.out), by first | omega | (rw [List.length_append]; omega), by first | omega | (rw [List.length_append]; omega)⟩, hM⟩
              · obtain ⟨z, hzz⟩ : ∃ z, sendE S 1 tx.size = z := ⟨_, rfl⟩
                have HD := Lib.hid (fun w' (h : Mem [] w [⟨gx, 52, 4, opCs ⟨kk, sd, tx, nn⟩⟩, ⟨gt, 50, 2, #[.string (bstr G0), .string (bstr G1)]⟩, ⟨gs, 50, 2, #[.string (bstr T0), .string (bstr T1)]⟩] [lineT fp g S] w') => send_no 1 tx (HasLine.of h) z hzz (by rw [← hzz]; exact hE) (by omega))
                have c5 : (z == 0) = false := by rw [hzz] at hE; simpa using hE
                clear s1 s2 s3 s4 hz hz2 hE hzz
                go_wp2_with (first | ((with_reducible refine (HD.out _ hM).mono ?_); rintro e w1 ⟨rfl, rfl⟩) | ((first | with_reducible refine at_load ?_ | ((with_reducible refine at_load_g ?_ ?_); (· rfl))); first | refine lc hM ?_ | refine ll hM ?_ | refine lp hM ?_) | ((with_reducible refine at_store ?_); first | (refine ls hM ?_; clear hM; intro wx hM) | (refine lw hM ?_; clear hM; intro wx hM) | (refine lt hM ?_; clear hM; intro wx hM)) | ((with_reducible refine at_alloc ?_); refine lz hM ?_; clear hM; intro gx wx hM) | ((with_reducible refine at_box ?_); refine lb hM ?_; clear hM; intro gx wx hM))
                go_meet
                case rel =>
                  obtain ⟨s1, s2, s3, s4⟩ := HS.out
                  exact ⟨_, T0, T1, G0, G1, fp, Lib.hid ⟨s1, .inl s2, by omega, by omega⟩, hM⟩
          · rcases hs01 with rfl | rfl
            · by_cases hE : sendE S 0 tx.size = 0
              · have hE2 := hE
                unfold sendE at hE2
                have hup : S.up = true := by
                  cases hu : S.up with
                  | true => rfl
                  | false => rw [hu] at hE2; simp at hE2
                have HD := Lib.hid (fun w' (h : Mem [] w [⟨gx, 52, 4, opCs ⟨kk, sd, tx, nn⟩⟩, ⟨gt, 50, 2, #[.string (bstr G0), .string (bstr G1)]⟩, ⟨gs, 50, 2, #[.string (bstr T0), .string (bstr T1)]⟩] [lineT fp g S] w') => send_0 tx (HasLine.of h) hup (by omega))
                have HUP := Lib.hid hup
                have c4 : ¬ (9223372036854775807 < (bstr T1).size + tx.size) := by rw [bstr_size]; omega
                clear s1 s2 s3 s4 hz hz2 hE hE2 hup
                go_wp2_with (first | ((with_reducible refine (HD.out _ hM).mono ?_); rintro e w1 ⟨rfl, hH⟩; obtain ⟨fp2, hM2⟩ := hH.ex; clear hM hH; have hM := hM2; clear hM2) | ((first | with_reducible refine at_load ?_ | ((with_reducible refine at_load_g ?_ ?_); (· rfl))); first | refine lc hM ?_ | refine ll hM ?_ | refine lp hM ?_) | ((with_reducible refine at_store ?_); first | (refine ls hM ?_; clear hM; intro wx hM) | (refine lw hM ?_; clear hM; intro wx hM) | (refine lt hM ?_; clear hM; intro wx hM)) | ((with_reducible refine at_alloc ?_); refine lz hM ?_; clear hM; intro gx wx hM) | ((with_reducible refine at_box ?_); refine lb hM ?_; clear hM; intro gx wx hM))
                refine wp_region_allB hM 8 (by kernel_rfl) ?_
                clear hM
                intro wd hM
                have HM0 := Lib.hid hM
                have hS := Below.refl wd.heap.size wd
                refine wpAllT_takes [0, 1, 2, 3, 4, 5, 6, 7] (by kernel_rfl) (fun _ _ _ _ _ h => h) hS (by kernel_rfl) ?_
                simp only [pickOps, List.filterMap_cons, List.filterMap_nil, List.getElem?_cons_zero, List.getElem?_cons_succ]
                repeat ((with_reducible apply wpHeld_step); (· rfl); (· (intro wq hSw; first | (go_simp; rfl) | (have hM' := HM0.out.step hSw; first | exact yields_load (C := fun _ => True) (qc hM') rfl | exact yields_load (C := fun _ => True) (ql hM') rfl | exact yields_load (C := fun _ => True) (qp hM') rfl | fail))); intro K hK; go_simp; (with_reducible refine hK _ ?_); clear hK K)
                refine wpHeld_nil ?_
                refine wpAllT_one 8 rfl (by kernel_rfl) ?_
                refine ls hM ?_ (v := .string (bstr T1 ++ tx))
                clear hM hS HM0
                intro wx hM
                refine wpList_then ⟨.inl (by kernel_rfl), wpAllT_drop (by kernel_rfl) (wpAll_done (by kernel_rfl) ?_)⟩
                go_wp2_with fail
                go_meet
                case rel =>
                  obtain ⟨s1, s2, s3, s4⟩ := HS.out
                  have hz := s2.sz (B := 200 * k) s3 s4
                  have htl := nums_length tx
                  have e : bstr T1 ++ tx = bstr (T1 ++ nums tx) := by rw [← bstr_app, bstr_of_nums]
                  rw [e] at hM
                  exact ⟨_, T0, T1 ++ nums tx, G0, G1, fp2, Lib.hid ⟨ok_send0 s1 hz (by omega) (by omega), .inl (str_send0 s2 HUP.out), by first | omega | (rw [List.length_append]; omega), by first | omega | (rw [List.length_append]; omega)⟩, hM⟩
              · obtain ⟨z, hzz⟩ : ∃ z, sendE S 0 tx.size = z := ⟨_, rfl⟩
                have HD := Lib.hid (fun w' (h : Mem [] w [⟨gx, 52, 4, opCs ⟨kk, sd, tx, nn⟩⟩, ⟨gt, 50, 2, #[.string (bstr G0), .string (bstr G1)]⟩, ⟨gs, 50, 2, #[.string (bstr T0), .string (bstr T1)]⟩] [lineT fp g S] w') => send_no 0 tx (HasLine.of h) z hzz (by rw [← hzz]; exact hE) (by omega))
                have c5 : (z == 0) = false := by rw [hzz] at hE; simpa using hE
                clear s1 s2 s3 s4 hz hz2 hE hzz
                go_wp2_with (first | ((with_reducible refine (HD.out _ hM).mono ?_); rintro e w1 ⟨rfl, rfl⟩) | ((first | with_reducible refine at_load ?_ | ((with_reducible refine at_load_g ?_ ?_); (· rfl))); first | refine lc hM ?_ | refine ll hM ?_ | refine lp hM ?_) | ((with_reducible refine at_store ?_); first | (refine ls hM ?_; clear hM; intro wx hM) | (refine lw hM ?_; clear hM; intro wx hM) | (refine lt hM ?_; clear hM; intro wx hM)) | ((with_reducible refine at_alloc ?_); refine lz hM ?_; clear hM; intro gx wx hM) | ((with_reducible refine at_box ?_); refine lb hM ?_; clear hM; intro gx wx hM))
                go_meet
                case rel =>
                  obtain ⟨s1, s2, s3, s4⟩ := HS.out
                  exact ⟨_, T0, T1, G0, G1, fp, Lib.hid ⟨s1, .inl s2, by omega, by omega⟩, hM⟩
            · by_cases hE : sendE S 1 tx.size = 0
              · have hE2 := hE
                unfold sendE at hE2
                have hup : S.up = true := by
                  cases hu : S.up with
                  | true => rfl
                  | false => rw [hu] at hE2; simp at hE2
                have HD := Lib.hid (fun w' (h : Mem [] w [⟨gx, 52, 4, opCs ⟨kk, sd, tx, nn⟩⟩, ⟨gt, 50, 2, #[.string (bstr G0), .string (bstr G1)]⟩, ⟨gs, 50, 2, #[.string (bstr T0), .string (bstr T1)]⟩] [lineT fp g S] w') => send_1 tx (HasLine.of h) hup (by omega))
                have HUP := Lib.hid hup
                have c4 : ¬ (9223372036854775807 < (bstr T0).size + tx.size) := by rw [bstr_size]; omega
                clear s1 s2 s3 s4 hz hz2 hE hE2 hup
                go_wp2_with (first | ((with_reducible refine (HD.out _ hM).mono ?_); rintro e w1 ⟨rfl, hH⟩; obtain ⟨fp2, hM2⟩ := hH.ex; clear hM hH; have hM := hM2; clear hM2) | ((first | with_reducible refine at_load ?_ | ((with_reducible refine at_load_g ?_ ?_); (· rfl))); first | refine lc hM ?_ | refine ll hM ?_ | refine lp hM ?_) | ((with_reducible refine at_store ?_); first | (refine ls hM ?_; clear hM; intro wx hM) | (refine lw hM ?_; clear hM; intro wx hM) | (refine lt hM ?_; clear hM; intro wx hM)) | ((with_reducible refine at_alloc ?_); refine lz hM ?_; clear hM; intro gx wx hM) | ((with_reducible refine at_box ?_); refine lb hM ?_; clear hM; intro gx wx hM))
                refine wp_region_allB hM 8 (by kernel_rfl) ?_
                clear hM
                intro wd hM
                have HM0 := Lib.hid hM
                have hS := Below.refl wd.heap.size wd
                refine wpAllT_takes [0, 1, 2, 3, 4, 5, 6, 7] (by kernel_rfl) (fun _ _ _ _ _ h => h) hS (by kernel_rfl) ?_
                simp only [pickOps, List.filterMap_cons, List.filterMap_nil, List.getElem?_cons_zero, List.getElem?_cons_succ]
                repeat ((with_reducible apply wpHeld_step); (· rfl); (· (intro wq hSw; first | (go_simp; rfl) | (have hM' := HM0.out.step hSw; first | exact yields_load (C := fun _ => True) (qc hM') rfl | exact yields_load (C := fun _ => True) (ql hM') rfl | exact yields_load (C := fun _ => True) (qp hM') rfl | fail))); intro K hK; go_simp; (with_reducible refine hK _ ?_); clear hK K)
                refine wpHeld_nil ?_
                refine wpAllT_one 8 rfl (by kernel_rfl) ?_
                refine ls hM ?_ (v := .string (bstr T0 ++ tx))
                clear hM hS HM0
                intro wx hM
                refine wpList_then ⟨.inl (by kernel_rfl), wpAllT_drop (by kernel_rfl) (wpAll_done (by kernel_rfl) ?_)⟩
                go_wp2_with fail
                go_meet
                case rel =>
                  obtain ⟨s1, s2, s3, s4⟩ := HS.out
                  have hz := s2.sz (B := 200 * k) s3 s4
                  have htl := nums_length tx
                  have e : bstr T0 ++ tx = bstr (T0 ++ nums tx) := by rw [← bstr_app, bstr_of_nums]
                  rw [e] at hM
                  exact ⟨_, T0 ++ nums tx, T1, G0, G1, fp2, Lib.hid ⟨ok_send1 s1 hz (by omega) (by omega), .inl (str_send1 s2 HUP.out), by first | omega | (rw [List.length_append]; omega), by first | omega | (rw [List.length_append]; omega)⟩, hM⟩
              · obtain ⟨z, hzz⟩ : ∃ z, sendE S 1 tx.size = z := ⟨_, rfl⟩
                have HD := Lib.hid (fun w' (h : Mem [] w [⟨gx, 52, 4, opCs ⟨kk, sd, tx, nn⟩⟩, ⟨gt, 50, 2, #[.string (bstr G0), .string (bstr G1)]⟩, ⟨gs, 50, 2, #[.string (bstr T0), .string (bstr T1)]⟩] [lineT fp g S] w') => send_no 1 tx (HasLine.of h) z hzz (by rw [← hzz]; exact hE) (by omega))
                have c5 : (z == 0) = false := by rw [hzz] at hE; simpa using hE
                clear s1 s2 s3 s4 hz hz2 hE hzz
                go_wp2_with (first | ((with_reducible refine (HD.out _ hM).mono ?_); rintro e w1 ⟨rfl, rfl⟩) | ((first | with_reducible refine at_load ?_ | ((with_reducible refine at_load_g ?_ ?_); (· rfl))); first | refine lc hM ?_ | refine ll hM ?_ | refine lp hM ?_) | ((with_reducible refine at_store ?_); first | (refine ls hM ?_; clear hM; intro wx hM) | (refine lw hM ?_; clear hM; intro wx hM) | (refine lt hM ?_; clear hM; intro wx hM)) | ((with_reducible refine at_alloc ?_); refine lz hM ?_; clear hM; intro gx wx hM) | ((with_reducible refine at_box ?_); refine lb hM ?_; clear hM; intro gx wx hM))
                go_meet
                case rel =>
                  obtain ⟨s1, s2, s3, s4⟩ := HS.out
                  exact ⟨_, T0, T1, G0, G1, fp, Lib.hid ⟨s1, .inl s2, by omega, by omega⟩, hM⟩
          · rcases hs01 with rfl | rfl
            · by_cases hn : nn < 0
              · have HD := Lib.hid (fun w' (h : Mem [] w [⟨gx, 52, 4, opCs ⟨kk, sd, tx, nn⟩⟩, ⟨gt, 50, 2, #[.string (bstr G0), .string (bstr G1)]⟩, ⟨gs, 50, 2, #[.string (bstr T0), .string (bstr T1)]⟩] [lineT fp g S] w') => recv_no 0 nn (HasLine.of h) (.inr hn))
                have c4 : ¬ (9223372036854775807 < (bstr G0).size) := by have := s2.p0.length_le; rw [List.length_append] at this; rw [bstr_size]; omega
                have hp : G0 <+: T0 := (List.prefix_append _ _).trans s2.p0
                have hle := hp.length_le
                have c5 : decide ((bstr T0).size < (bstr G0).size) = false := decide_eq_false (by rw [bstr_size, bstr_size]; omega)
                have c6 : decide (((bstr T0).size : Int) < ((bstr G0).size : Int)) = false := decide_eq_false (by rw [bstr_size, bstr_size]; omega)
                have c7 := bstr_pre hp
                have c8 : (bstr G0).size ≤ (bstr T0).size := by rw [bstr_size, bstr_size]; omega
                have c9 : bstr G0 ++ (⟨#[]⟩ : ByteArray) = bstr G0 := by apply ByteArray.ext; simp
                clear s1 s2 s3 s4 hz hz2 hn hp hle
                go_wp2_with (first | ((with_reducible refine (HD.out _ hM).mono ?_); rintro e w1 ⟨rfl, rfl⟩) | ((with_reducible refine at_store ?_); refine ls hM ?_ (v := .string (bstr G0)) (hy := by exact congrArg Value.string c9); clear hM; intro wx hM) | ((first | with_reducible refine at_load ?_ | ((with_reducible refine at_load_g ?_ ?_); (· rfl))); first | refine lc hM ?_ | refine ll hM ?_ | refine lp hM ?_) | ((with_reducible refine at_store ?_); first | (refine ls hM ?_; clear hM; intro wx hM) | (refine lw hM ?_; clear hM; intro wx hM) | (refine lt hM ?_; clear hM; intro wx hM)) | ((with_reducible refine at_alloc ?_); refine lz hM ?_; clear hM; intro gx wx hM) | ((with_reducible refine at_box ?_); refine lb hM ?_; clear hM; intro gx wx hM))
                refine Go.Bul.wp_region_class (Mem _ w _ _) (by kernel_rfl) (by kernel_rfl) hM.drew ?_
                repeat ((with_reducible refine wpQuiet_step (fun K hK => ?_)); (first | ((first | ((with_reducible refine quiet_some ?_ ?_); (· rfl)) | ((with_reducible refine quiet_wanted ?_ ?_); (· rfl))); apply Exists.intro; refine ⟨fun w' hM' => ?_, ?_⟩; (· first | (go_simp; rfl) | exact qc hM' | fail | exact ql hM' | exact qp hM')) | ((with_reducible refine quiet_unwanted ?_ ?_); (· rfl))); go_simp; (with_reducible refine hK _ ?_); clear hK K)
                refine wpQuiet_nil ?_
                intro wx hM
                go_wp2_with fail
                go_meet
                case rel =>
                  obtain ⟨s1, s2, s3, s4⟩ := HS.out
                  exact ⟨_, T0, T1, G0, G1, fp, Lib.hid ⟨s1, .inl s2, by omega, by omega⟩, hM⟩
              · have hst := str_recv0 nn.toNat s2
                have HD := Lib.hid (fun w' (h : Mem [] w [⟨gx, 52, 4, opCs ⟨kk, sd, tx, nn⟩⟩, ⟨gt, 50, 2, #[.string (bstr G0), .string (bstr G1)]⟩, ⟨gs, 50, 2, #[.string (bstr T0), .string (bstr T1)]⟩] [lineT fp g S] w') => recv_0 nn (HasLine.of h) (by omega) hn0)
                have HST := Lib.hid hst
                have hle := hst.2.length_le
                obtain ⟨X, hX⟩ : ∃ X, S.e0.arr.take nn.toNat = X := ⟨_, rfl⟩
                rw [hX] at hle hst HD HST
                have e9 : bstr G0 ++ bstr X = bstr (G0 ++ X) := bstr_app _ _
                have c4 : ¬ (9223372036854775807 < (bstr G0).size + (bstr X).size) := by rw [bstr_size, bstr_size, ← List.length_append]; omega
                have c5 : decide ((bstr T0).size < (bstr (G0 ++ X)).size) = false := decide_eq_false (by rw [bstr_size, bstr_size]; omega)
                have c6 : decide (((bstr T0).size : Int) < ((bstr (G0 ++ X)).size : Int)) = false := decide_eq_false (by rw [bstr_size, bstr_size]; omega)
                have c7 := bstr_pre hst.2
                have c8 : (bstr (G0 ++ X)).size ≤ (bstr T0).size := by rw [bstr_size, bstr_size]; omega
                have E9 := Lib.hid e9
                have HX2 := Lib.hid hX
                have s5 : Ok { S with e0 := { S.e0 with arr := S.e0.arr.drop nn.toNat } } := ok_rcv0 nn.toNat s1
                have S5 := Lib.hid s5
                clear s1 s2 s3 s4 s5 hz hz2 hn hst hle hX e9
                go_wp2_with (first | ((with_reducible refine (HD.out _ hM).mono ?_); rintro e w1 ⟨rfl, hH⟩; obtain ⟨fp2, hM2⟩ := hH.ex; clear hM hH; have hM := hM2; clear hM2) | ((with_reducible refine at_store ?_); refine ls hM ?_ (v := .string (bstr (G0 ++ X))) (hy := by exact congrArg Value.string E9.out); clear hM; intro wx hM) | ((first | with_reducible refine at_load ?_ | ((with_reducible refine at_load_g ?_ ?_); (· rfl))); first | refine lc hM ?_ | refine ll hM ?_ | refine lp hM ?_) | ((with_reducible refine at_store ?_); first | (refine ls hM ?_; clear hM; intro wx hM) | (refine lw hM ?_; clear hM; intro wx hM) | (refine lt hM ?_; clear hM; intro wx hM)) | ((with_reducible refine at_alloc ?_); refine lz hM ?_; clear hM; intro gx wx hM) | ((with_reducible refine at_box ?_); refine lb hM ?_; clear hM; intro gx wx hM))
                refine Go.Bul.wp_region_class (Mem _ w _ _) (by kernel_rfl) (by kernel_rfl) hM.drew ?_
                repeat ((with_reducible refine wpQuiet_step (fun K hK => ?_)); (first | ((first | ((with_reducible refine quiet_some ?_ ?_); (· rfl)) | ((with_reducible refine quiet_wanted ?_ ?_); (· rfl))); apply Exists.intro; refine ⟨fun w' hM' => ?_, ?_⟩; (· first | (go_simp; rfl) | exact qc hM' | fail | exact ql hM' | exact qp hM')) | ((with_reducible refine quiet_unwanted ?_ ?_); (· rfl))); go_simp; (with_reducible refine hK _ ?_); clear hK K)
                refine wpQuiet_nil ?_
                intro wx hM
                go_wp2_with fail
                go_meet
                case rel =>
                  obtain ⟨s1, s2, s3, s4⟩ := HS.out
                  exact ⟨_, T0, T1, G0 ++ X, G1, fp2, Lib.hid ⟨S5.out, .inl HST.out.1, by omega, by omega⟩, hM⟩
            · by_cases hn : nn < 0
              · have HD := Lib.hid (fun w' (h : Mem [] w [⟨gx, 52, 4, opCs ⟨kk, sd, tx, nn⟩⟩, ⟨gt, 50, 2, #[.string (bstr G0), .string (bstr G1)]⟩, ⟨gs, 50, 2, #[.string (bstr T0), .string (bstr T1)]⟩] [lineT fp g S] w') => recv_no 1 nn (HasLine.of h) (.inr hn))
                have c4 : ¬ (9223372036854775807 < (bstr G1).size) := by have := s2.p1.length_le; rw [List.length_append] at this; rw [bstr_size]; omega
                have hp : G1 <+: T1 := (List.prefix_append _ _).trans s2.p1
                have hle := hp.length_le
                have c5 : decide ((bstr T1).size < (bstr G1).size) = false := decide_eq_false (by rw [bstr_size, bstr_size]; omega)
                have c6 : decide (((bstr T1).size : Int) < ((bstr G1).size : Int)) = false := decide_eq_false (by rw [bstr_size, bstr_size]; omega)
                have c7 := bstr_pre hp
                have c8 : (bstr G1).size ≤ (bstr T1).size := by rw [bstr_size, bstr_size]; omega
                have c9 : bstr G1 ++ (⟨#[]⟩ : ByteArray) = bstr G1 := by apply ByteArray.ext; simp
                clear s1 s2 s3 s4 hz hz2 hn hp hle
                go_wp2_with (first | ((with_reducible refine (HD.out _ hM).mono ?_); rintro e w1 ⟨rfl, rfl⟩) | ((with_reducible refine at_store ?_); refine ls hM ?_ (v := .string (bstr G1)) (hy := by exact congrArg Value.string c9); clear hM; intro wx hM) | ((first | with_reducible refine at_load ?_ | ((with_reducible refine at_load_g ?_ ?_); (· rfl))); first | refine lc hM ?_ | refine ll hM ?_ | refine lp hM ?_) | ((with_reducible refine at_store ?_); first | (refine ls hM ?_; clear hM; intro wx hM) | (refine lw hM ?_; clear hM; intro wx hM) | (refine lt hM ?_; clear hM; intro wx hM)) | ((with_reducible refine at_alloc ?_); refine lz hM ?_; clear hM; intro gx wx hM) | ((with_reducible refine at_box ?_); refine lb hM ?_; clear hM; intro gx wx hM))
                refine Go.Bul.wp_region_class (Mem _ w _ _) (by kernel_rfl) (by kernel_rfl) hM.drew ?_
                repeat ((with_reducible refine wpQuiet_step (fun K hK => ?_)); (first | ((first | ((with_reducible refine quiet_some ?_ ?_); (· rfl)) | ((with_reducible refine quiet_wanted ?_ ?_); (· rfl))); apply Exists.intro; refine ⟨fun w' hM' => ?_, ?_⟩; (· first | (go_simp; rfl) | exact qc hM' | fail | exact ql hM' | exact qp hM')) | ((with_reducible refine quiet_unwanted ?_ ?_); (· rfl))); go_simp; (with_reducible refine hK _ ?_); clear hK K)
                refine wpQuiet_nil ?_
                intro wx hM
                go_wp2_with fail
                go_meet
                case rel =>
                  obtain ⟨s1, s2, s3, s4⟩ := HS.out
                  exact ⟨_, T0, T1, G0, G1, fp, Lib.hid ⟨s1, .inl s2, by omega, by omega⟩, hM⟩
              · have hst := str_recv1 nn.toNat s2
                have HD := Lib.hid (fun w' (h : Mem [] w [⟨gx, 52, 4, opCs ⟨kk, sd, tx, nn⟩⟩, ⟨gt, 50, 2, #[.string (bstr G0), .string (bstr G1)]⟩, ⟨gs, 50, 2, #[.string (bstr T0), .string (bstr T1)]⟩] [lineT fp g S] w') => recv_1 nn (HasLine.of h) (by omega) hn1)
                have HST := Lib.hid hst
                have hle := hst.2.length_le
                obtain ⟨X, hX⟩ : ∃ X, S.e1.arr.take nn.toNat = X := ⟨_, rfl⟩
                rw [hX] at hle hst HD HST
                have e9 : bstr G1 ++ bstr X = bstr (G1 ++ X) := bstr_app _ _
                have c4 : ¬ (9223372036854775807 < (bstr G1).size + (bstr X).size) := by rw [bstr_size, bstr_size, ← List.length_append]; omega
                have c5 : decide ((bstr T1).size < (bstr (G1 ++ X)).size) = false := decide_eq_false (by rw [bstr_size, bstr_size]; omega)
                have c6 : decide (((bstr T1).size : Int) < ((bstr (G1 ++ X)).size : Int)) = false := decide_eq_false (by rw [bstr_size, bstr_size]; omega)
                have c7 := bstr_pre hst.2
                have c8 : (bstr (G1 ++ X)).size ≤ (bstr T1).size := by rw [bstr_size, bstr_size]; omega
                have E9 := Lib.hid e9
                have HX2 := Lib.hid hX
                have s5 : Ok { S with e1 := { S.e1 with arr := S.e1.arr.drop nn.toNat } } := ok_recv nn.toNat s1
                have S5 := Lib.hid s5
                clear s1 s2 s3 s4 s5 hz hz2 hn hst hle hX e9
                go_wp2_with (first | ((with_reducible refine (HD.out _ hM).mono ?_); rintro e w1 ⟨rfl, hH⟩; obtain ⟨fp2, hM2⟩ := hH.ex; clear hM hH; have hM := hM2; clear hM2) | ((with_reducible refine at_store ?_); refine ls hM ?_ (v := .string (bstr (G1 ++ X))) (hy := by exact congrArg Value.string E9.out); clear hM; intro wx hM) | ((first | with_reducible refine at_load ?_ | ((with_reducible refine at_load_g ?_ ?_); (· rfl))); first | refine lc hM ?_ | refine ll hM ?_ | refine lp hM ?_) | ((with_reducible refine at_store ?_); first | (refine ls hM ?_; clear hM; intro wx hM) | (refine lw hM ?_; clear hM; intro wx hM) | (refine lt hM ?_; clear hM; intro wx hM)) | ((with_reducible refine at_alloc ?_); refine lz hM ?_; clear hM; intro gx wx hM) | ((with_reducible refine at_box ?_); refine lb hM ?_; clear hM; intro gx wx hM))
                refine Go.Bul.wp_region_class (Mem _ w _ _) (by kernel_rfl) (by kernel_rfl) hM.drew ?_
                repeat ((with_reducible refine wpQuiet_step (fun K hK => ?_)); (first | ((first | ((with_reducible refine quiet_some ?_ ?_); (· rfl)) | ((with_reducible refine quiet_wanted ?_ ?_); (· rfl))); apply Exists.intro; refine ⟨fun w' hM' => ?_, ?_⟩; (· first | (go_simp; rfl) | exact qc hM' | fail | exact ql hM' | exact qp hM')) | ((with_reducible refine quiet_unwanted ?_ ?_); (· rfl))); go_simp; (with_reducible refine hK _ ?_); clear hK K)
                refine wpQuiet_nil ?_
                intro wx hM
                go_wp2_with fail
                go_meet
                case rel =>
                  obtain ⟨s1, s2, s3, s4⟩ := HS.out
                  exact ⟨_, T0, T1, G0, G1 ++ X, fp2, Lib.hid ⟨S5.out, .inl HST.out.1, by omega, by omega⟩, hM⟩
          · rcases hs01 with rfl | rfl
            · by_cases hn : nn < 0
              · have HD := Lib.hid (fun w' (h : Mem [] w [⟨gx, 52, 4, opCs ⟨kk, sd, tx, nn⟩⟩, ⟨gt, 50, 2, #[.string (bstr G0), .string (bstr G1)]⟩, ⟨gs, 50, 2, #[.string (bstr T0), .string (bstr T1)]⟩] [lineT fp g S] w') => recv_no 0 nn (HasLine.of h) (.inr hn))
                have c4 : ¬ (9223372036854775807 < (bstr G0).size) := by have := s2.p0.length_le; rw [List.length_append] at this; rw [bstr_size]; omega
                have hp : G0 <+: T0 := (List.prefix_append _ _).trans s2.p0
                have hle := hp.length_le
                have c5 : decide ((bstr T0).size < (bstr G0).size) = false := decide_eq_false (by rw [bstr_size, bstr_size]; omega)
                have c6 : decide (((bstr T0).size : Int) < ((bstr G0).size : Int)) = false := decide_eq_false (by rw [bstr_size, bstr_size]; omega)
                have c7 := bstr_pre hp
                have c8 : (bstr G0).size ≤ (bstr T0).size := by rw [bstr_size, bstr_size]; omega
                have c9 : bstr G0 ++ (⟨#[]⟩ : ByteArray) = bstr G0 := by apply ByteArray.ext; simp
                clear s1 s2 s3 s4 hz hz2 hn hp hle
                go_wp2_with (first | ((with_reducible refine (HD.out _ hM).mono ?_); rintro e w1 ⟨rfl, rfl⟩) | ((with_reducible refine at_store ?_); refine ls hM ?_ (v := .string (bstr G0)) (hy := by exact congrArg Value.string c9); clear hM; intro wx hM) | ((first | with_reducible refine at_load ?_ | ((with_reducible refine at_load_g ?_ ?_); (· rfl))); first | refine lc hM ?_ | refine ll hM ?_ | refine lp hM ?_) | ((with_reducible refine at_store ?_); first | (refine ls hM ?_; clear hM; intro wx hM) | (refine lw hM ?_; clear hM; intro wx hM) | (refine lt hM ?_; clear hM; intro wx hM)) | ((with_reducible refine at_alloc ?_); refine lz hM ?_; clear hM; intro gx wx hM) | ((with_reducible refine at_box ?_); refine lb hM ?_; clear hM; intro gx wx hM))
                refine Go.Bul.wp_region_class (Mem _ w _ _) (by kernel_rfl) (by kernel_rfl) hM.drew ?_
                repeat ((with_reducible refine wpQuiet_step (fun K hK => ?_)); (first | ((first | ((with_reducible refine quiet_some ?_ ?_); (· rfl)) | ((with_reducible refine quiet_wanted ?_ ?_); (· rfl))); apply Exists.intro; refine ⟨fun w' hM' => ?_, ?_⟩; (· first | (go_simp; rfl) | exact qc hM' | fail | exact ql hM' | exact qp hM')) | ((with_reducible refine quiet_unwanted ?_ ?_); (· rfl))); go_simp; (with_reducible refine hK _ ?_); clear hK K)
                refine wpQuiet_nil ?_
                intro wx hM
                go_wp2_with fail
                go_meet
                case rel =>
                  obtain ⟨s1, s2, s3, s4⟩ := HS.out
                  exact ⟨_, T0, T1, G0, G1, fp, Lib.hid ⟨s1, .inl s2, by omega, by omega⟩, hM⟩
              · have hst := str_recv0 nn.toNat s2
                have HD := Lib.hid (fun w' (h : Mem [] w [⟨gx, 52, 4, opCs ⟨kk, sd, tx, nn⟩⟩, ⟨gt, 50, 2, #[.string (bstr G0), .string (bstr G1)]⟩, ⟨gs, 50, 2, #[.string (bstr T0), .string (bstr T1)]⟩] [lineT fp g S] w') => recv_0 nn (HasLine.of h) (by omega) hn0)
                have HST := Lib.hid hst
                have hle := hst.2.length_le
                obtain ⟨X, hX⟩ : ∃ X, S.e0.arr.take nn.toNat = X := ⟨_, rfl⟩
                rw [hX] at hle hst HD HST
                have e9 : bstr G0 ++ bstr X = bstr (G0 ++ X) := bstr_app _ _
                have c4 : ¬ (9223372036854775807 < (bstr G0).size + (bstr X).size) := by rw [bstr_size, bstr_size, ← List.length_append]; omega
                have c5 : decide ((bstr T0).size < (bstr (G0 ++ X)).size) = false := decide_eq_false (by rw [bstr_size, bstr_size]; omega)
                have c6 : decide (((bstr T0).size : Int) < ((bstr (G0 ++ X)).size : Int)) = false := decide_eq_false (by rw [bstr_size, bstr_size]; omega)
                have c7 := bstr_pre hst.2
                have c8 : (bstr (G0 ++ X)).size ≤ (bstr T0).size := by rw [bstr_size, bstr_size]; omega
                have E9 := Lib.hid e9
                have HX2 := Lib.hid hX
                have s5 : Ok { S with e0 := { S.e0 with arr := S.e0.arr.drop nn.toNat } } := ok_rcv0 nn.toNat s1
                have S5 := Lib.hid s5
                clear s1 s2 s3 s4 s5 hz hz2 hn hst hle hX e9
                go_wp2_with (first | ((with_reducible refine (HD.out _ hM).mono ?_); rintro e w1 ⟨rfl, hH⟩; obtain ⟨fp2, hM2⟩ := hH.ex; clear hM hH; have hM := hM2; clear hM2) | ((with_reducible refine at_store ?_); refine ls hM ?_ (v := .string (bstr (G0 ++ X))) (hy := by exact congrArg Value.string E9.out); clear hM; intro wx hM) | ((first | with_reducible refine at_load ?_ | ((with_reducible refine at_load_g ?_ ?_); (· rfl))); first | refine lc hM ?_ | refine ll hM ?_ | refine lp hM ?_) | ((with_reducible refine at_store ?_); first | (refine ls hM ?_; clear hM; intro wx hM) | (refine lw hM ?_; clear hM; intro wx hM) | (refine lt hM ?_; clear hM; intro wx hM)) | ((with_reducible refine at_alloc ?_); refine lz hM ?_; clear hM; intro gx wx hM) | ((with_reducible refine at_box ?_); refine lb hM ?_; clear hM; intro gx wx hM))
                refine Go.Bul.wp_region_class (Mem _ w _ _) (by kernel_rfl) (by kernel_rfl) hM.drew ?_
                repeat ((with_reducible refine wpQuiet_step (fun K hK => ?_)); (first | ((first | ((with_reducible refine quiet_some ?_ ?_); (· rfl)) | ((with_reducible refine quiet_wanted ?_ ?_); (· rfl))); apply Exists.intro; refine ⟨fun w' hM' => ?_, ?_⟩; (· first | (go_simp; rfl) | exact qc hM' | fail | exact ql hM' | exact qp hM')) | ((with_reducible refine quiet_unwanted ?_ ?_); (· rfl))); go_simp; (with_reducible refine hK _ ?_); clear hK K)
                refine wpQuiet_nil ?_
                intro wx hM
                go_wp2_with fail
                go_meet
                case rel =>
                  obtain ⟨s1, s2, s3, s4⟩ := HS.out
                  exact ⟨_, T0, T1, G0 ++ X, G1, fp2, Lib.hid ⟨S5.out, .inl HST.out.1, by omega, by omega⟩, hM⟩
            · by_cases hn : nn < 0
              · have HD := Lib.hid (fun w' (h : Mem [] w [⟨gx, 52, 4, opCs ⟨kk, sd, tx, nn⟩⟩, ⟨gt, 50, 2, #[.string (bstr G0), .string (bstr G1)]⟩, ⟨gs, 50, 2, #[.string (bstr T0), .string (bstr T1)]⟩] [lineT fp g S] w') => recv_no 1 nn (HasLine.of h) (.inr hn))
                have c4 : ¬ (9223372036854775807 < (bstr G1).size) := by have := s2.p1.length_le; rw [List.length_append] at this; rw [bstr_size]; omega
                have hp : G1 <+: T1 := (List.prefix_append _ _).trans s2.p1
                have hle := hp.length_le
                have c5 : decide ((bstr T1).size < (bstr G1).size) = false := decide_eq_false (by rw [bstr_size, bstr_size]; omega)
                have c6 : decide (((bstr T1).size : Int) < ((bstr G1).size : Int)) = false := decide_eq_false (by rw [bstr_size, bstr_size]; omega)
                have c7 := bstr_pre hp
                have c8 : (bstr G1).size ≤ (bstr T1).size := by rw [bstr_size, bstr_size]; omega
                have c9 : bstr G1 ++ (⟨#[]⟩ : ByteArray) = bstr G1 := by apply ByteArray.ext; simp
                clear s1 s2 s3 s4 hz hz2 hn hp hle
                go_wp2_with (first | ((with_reducible refine (HD.out _ hM).mono ?_); rintro e w1 ⟨rfl, rfl⟩) | ((with_reducible refine at_store ?_); refine ls hM ?_ (v := .string (bstr G1)) (hy := by exact congrArg Value.string c9); clear hM; intro wx hM) | ((first | with_reducible refine at_load ?_ | ((with_reducible refine at_load_g ?_ ?_); (· rfl))); first | refine lc hM ?_ | refine ll hM ?_ | refine lp hM ?_) | ((with_reducible refine at_store ?_); first | (refine ls hM ?_; clear hM; intro wx hM) | (refine lw hM ?_; clear hM; intro wx hM) | (refine lt hM ?_; clear hM; intro wx hM)) | ((with_reducible refine at_alloc ?_); refine lz hM ?_; clear hM; intro gx wx hM) | ((with_reducible refine at_box ?_); refine lb hM ?_; clear hM; intro gx wx hM))
                refine Go.Bul.wp_region_class (Mem _ w _ _) (by kernel_rfl) (by kernel_rfl) hM.drew ?_
                repeat ((with_reducible refine wpQuiet_step (fun K hK => ?_)); (first | ((first | ((with_reducible refine quiet_some ?_ ?_); (· rfl)) | ((with_reducible refine quiet_wanted ?_ ?_); (· rfl))); apply Exists.intro; refine ⟨fun w' hM' => ?_, ?_⟩; (· first | (go_simp; rfl) | exact qc hM' | fail | exact ql hM' | exact qp hM')) | ((with_reducible refine quiet_unwanted ?_ ?_); (· rfl))); go_simp; (with_reducible refine hK _ ?_); clear hK K)
                refine wpQuiet_nil ?_
                intro wx hM
                go_wp2_with fail
                go_meet
                case rel =>
                  obtain ⟨s1, s2, s3, s4⟩ := HS.out
                  exact ⟨_, T0, T1, G0, G1, fp, Lib.hid ⟨s1, .inl s2, by omega, by omega⟩, hM⟩
              · have hst := str_recv1 nn.toNat s2
                have HD := Lib.hid (fun w' (h : Mem [] w [⟨gx, 52, 4, opCs ⟨kk, sd, tx, nn⟩⟩, ⟨gt, 50, 2, #[.string (bstr G0), .string (bstr G1)]⟩, ⟨gs, 50, 2, #[.string (bstr T0), .string (bstr T1)]⟩] [lineT fp g S] w') => recv_1 nn (HasLine.of h) (by omega) hn1)
                have HST := Lib.hid hst
                have hle := hst.2.length_le
                obtain ⟨X, hX⟩ : ∃ X, S.e1.arr.take nn.toNat = X := ⟨_, rfl⟩
                rw [hX] at hle hst HD HST
                have e9 : bstr G1 ++ bstr X = bstr (G1 ++ X) := bstr_app _ _
                have c4 : ¬ (9223372036854775807 < (bstr G1).size + (bstr X).size) := by rw [bstr_size, bstr_size, ← List.length_append]; omega
                have c5 : decide ((bstr T1).size < (bstr (G1 ++ X)).size) = false := decide_eq_false (by rw [bstr_size, bstr_size]; omega)
                have c6 : decide (((bstr T1).size : Int) < ((bstr (G1 ++ X)).size : Int)) = false := decide_eq_false (by rw [bstr_size, bstr_size]; omega)
                have c7 := bstr_pre hst.2
                have c8 : (bstr (G1 ++ X)).size ≤ (bstr T1).size := by rw [bstr_size, bstr_size]; omega
                have E9 := Lib.hid e9
                have HX2 := Lib.hid hX
                have s5 : Ok { S with e1 := { S.e1 with arr := S.e1.arr.drop nn.toNat } } := ok_recv nn.toNat s1
                have S5 := Lib.hid s5
                clear s1 s2 s3 s4 s5 hz hz2 hn hst hle hX e9
                go_wp2_with (first | ((with_reducible refine (HD.out _ hM).mono ?_); rintro e w1 ⟨rfl, hH⟩; obtain ⟨fp2, hM2⟩ := hH.ex; clear hM hH; have hM := hM2; clear hM2) | ((with_reducible refine at_store ?_); refine ls hM ?_ (v := .string (bstr (G1 ++ X))) (hy := by exact congrArg Value.string E9.out); clear hM; intro wx hM) | ((first | with_reducible refine at_load ?_ | ((with_reducible refine at_load_g ?_ ?_); (· rfl))); first | refine lc hM ?_ | refine ll hM ?_ | refine lp hM ?_) | ((with_reducible refine at_store ?_); first | (refine ls hM ?_; clear hM; intro wx hM) | (refine lw hM ?_; clear hM; intro wx hM) | (refine lt hM ?_; clear hM; intro wx hM)) | ((with_reducible refine at_alloc ?_); refine lz hM ?_; clear hM; intro gx wx hM) | ((with_reducible refine at_box ?_); refine lb hM ?_; clear hM; intro gx wx hM))
                refine Go.Bul.wp_region_class (Mem _ w _ _) (by kernel_rfl) (by kernel_rfl) hM.drew ?_
                repeat ((with_reducible refine wpQuiet_step (fun K hK => ?_)); (first | ((first | ((with_reducible refine quiet_some ?_ ?_); (· rfl)) | ((with_reducible refine quiet_wanted ?_ ?_); (· rfl))); apply Exists.intro; refine ⟨fun w' hM' => ?_, ?_⟩; (· first | (go_simp; rfl) | exact qc hM' | fail | exact ql hM' | exact qp hM')) | ((with_reducible refine quiet_unwanted ?_ ?_); (· rfl))); go_simp; (with_reducible refine hK _ ?_); clear hK K)
                refine wpQuiet_nil ?_
                intro wx hM
                go_wp2_with fail
                go_meet
                case rel =>
                  obtain ⟨s1, s2, s3, s4⟩ := HS.out
                  exact ⟨_, T0, T1, G0, G1 ++ X, fp2, Lib.hid ⟨S5.out, .inl HST.out.1, by omega, by omega⟩, hM⟩
          · by_cases hn : nn < 0 ∨ 10000000 - S.now < nn
            · have HD := Lib.hid (fun w' (h : Mem [] w [⟨gx, 52, 4, opCs ⟨kk, sd, tx, nn⟩⟩, ⟨gt, 50, 2, #[.string (bstr G0), .string (bstr G1)]⟩, ⟨gs, 50, 2, #[.string (bstr T0), .string (bstr T1)]⟩] [lineT fp g S] w') => adv_no nn (HasLine.of h) s1 hn)
              clear s1 s2 s3 s4 hz hz2 hn
              go_wp2_with (first | ((with_reducible refine (HD.out _ hM).mono ?_); rintro e w1 ⟨rfl, rfl⟩) | ((first | with_reducible refine at_load ?_ | ((with_reducible refine at_load_g ?_ ?_); (· rfl))); first | refine lc hM ?_ | refine ll hM ?_ | refine lp hM ?_) | ((with_reducible refine at_store ?_); first | (refine ls hM ?_; clear hM; intro wx hM) | (refine lw hM ?_; clear hM; intro wx hM) | (refine lt hM ?_; clear hM; intro wx hM)) | ((with_reducible refine at_alloc ?_); refine lz hM ?_; clear hM; intro gx wx hM) | ((with_reducible refine at_box ?_); refine lb hM ?_; clear hM; intro gx wx hM))
              go_meet
              case rel =>
                obtain ⟨s1, s2, s3, s4⟩ := HS.out
                exact ⟨_, T0, T1, G0, G1, fp, Lib.hid ⟨s1, .inl s2, by omega, by omega⟩, hM⟩
            · have HD := Lib.hid (fun w' (h : Mem [] w [⟨gx, 52, 4, opCs ⟨kk, sd, tx, nn⟩⟩, ⟨gt, 50, 2, #[.string (bstr G0), .string (bstr G1)]⟩, ⟨gs, 50, 2, #[.string (bstr T0), .string (bstr T1)]⟩] [lineT fp g S] w') => adv_any nn (HasLine.of h) s1 (by omega) (by omega))
              have HN := Lib.hid hn
              clear s1 s2 s3 s4 hz hz2 hn
              go_wp2_with (first | ((with_reducible refine (HD.out _ hM).mono ?_); rintro e w1 ⟨rfl, hH⟩; obtain ⟨fp2, hM2⟩ := hH.ex; clear hM hH; have hM := hM2; clear hM2) | ((first | with_reducible refine at_load ?_ | ((with_reducible refine at_load_g ?_ ?_); (· rfl))); first | refine lc hM ?_ | refine ll hM ?_ | refine lp hM ?_) | ((with_reducible refine at_store ?_); first | (refine ls hM ?_; clear hM; intro wx hM) | (refine lw hM ?_; clear hM; intro wx hM) | (refine lt hM ?_; clear hM; intro wx hM)) | ((with_reducible refine at_alloc ?_); refine lz hM ?_; clear hM; intro gx wx hM) | ((with_reducible refine at_box ?_); refine lb hM ?_; clear hM; intro gx wx hM))
              go_meet
              case rel =>
                obtain ⟨s1, s2, s3, s4⟩ := HS.out
                have hn := HN.out
                exact ⟨_, T0, T1, G0, G1, fp2, Lib.hid ⟨ok_passN s1 _ (by omega), str_pass s2 _, by omega, by omega⟩, hM⟩
          · by_cases hn : nn < 0 ∨ 10000000 - S.now < nn
            · have HD := Lib.hid (fun w' (h : Mem [] w [⟨gx, 52, 4, opCs ⟨kk, sd, tx, nn⟩⟩, ⟨gt, 50, 2, #[.string (bstr G0), .string (bstr G1)]⟩, ⟨gs, 50, 2, #[.string (bstr T0), .string (bstr T1)]⟩] [lineT fp g S] w') => adv_no nn (HasLine.of h) s1 hn)
              clear s1 s2 s3 s4 hz hz2 hn
              go_wp2_with (first | ((with_reducible refine (HD.out _ hM).mono ?_); rintro e w1 ⟨rfl, rfl⟩) | ((first | with_reducible refine at_load ?_ | ((with_reducible refine at_load_g ?_ ?_); (· rfl))); first | refine lc hM ?_ | refine ll hM ?_ | refine lp hM ?_) | ((with_reducible refine at_store ?_); first | (refine ls hM ?_; clear hM; intro wx hM) | (refine lw hM ?_; clear hM; intro wx hM) | (refine lt hM ?_; clear hM; intro wx hM)) | ((with_reducible refine at_alloc ?_); refine lz hM ?_; clear hM; intro gx wx hM) | ((with_reducible refine at_box ?_); refine lb hM ?_; clear hM; intro gx wx hM))
              go_meet
              case rel =>
                obtain ⟨s1, s2, s3, s4⟩ := HS.out
                exact ⟨_, T0, T1, G0, G1, fp, Lib.hid ⟨s1, .inl s2, by omega, by omega⟩, hM⟩
            · have HD := Lib.hid (fun w' (h : Mem [] w [⟨gx, 52, 4, opCs ⟨kk, sd, tx, nn⟩⟩, ⟨gt, 50, 2, #[.string (bstr G0), .string (bstr G1)]⟩, ⟨gs, 50, 2, #[.string (bstr T0), .string (bstr T1)]⟩] [lineT fp g S] w') => adv_any nn (HasLine.of h) s1 (by omega) (by omega))
              have HN := Lib.hid hn
              clear s1 s2 s3 s4 hz hz2 hn
              go_wp2_with (first | ((with_reducible refine (HD.out _ hM).mono ?_); rintro e w1 ⟨rfl, hH⟩; obtain ⟨fp2, hM2⟩ := hH.ex; clear hM hH; have hM := hM2; clear hM2) | ((first | with_reducible refine at_load ?_ | ((with_reducible refine at_load_g ?_ ?_); (· rfl))); first | refine lc hM ?_ | refine ll hM ?_ | refine lp hM ?_) | ((with_reducible refine at_store ?_); first | (refine ls hM ?_; clear hM; intro wx hM) | (refine lw hM ?_; clear hM; intro wx hM) | (refine lt hM ?_; clear hM; intro wx hM)) | ((with_reducible refine at_alloc ?_); refine lz hM ?_; clear hM; intro gx wx hM) | ((with_reducible refine at_box ?_); refine lb hM ?_; clear hM; intro gx wx hM))
              go_meet
              case rel =>
                obtain ⟨s1, s2, s3, s4⟩ := HS.out
                have hn := HN.out
                exact ⟨_, T0, T1, G0, G1, fp2, Lib.hid ⟨ok_passN s1 _ (by omega), str_pass s2 _, by omega, by omega⟩, hM⟩
          · have HD := Lib.hid (fun w' (h : Mem [] w [⟨gx, 52, 4, opCs ⟨kk, sd, tx, nn⟩⟩, ⟨gt, 50, 2, #[.string (bstr G0), .string (bstr G1)]⟩, ⟨gs, 50, 2, #[.string (bstr T0), .string (bstr T1)]⟩] [lineT fp g S] w') => drop_any (HasLine.of h))
            clear s1 s2 s3 s4 hz hz2
            go_wp2_with (first | ((with_reducible refine (HD.out _ hM).mono ?_); rintro e w1 ⟨rfl, hH⟩; obtain ⟨fp2, hM2⟩ := hH.ex; clear hM hH; have hM := hM2; clear hM2) | ((first | with_reducible refine at_load ?_ | ((with_reducible refine at_load_g ?_ ?_); (· rfl))); first | refine lc hM ?_ | refine ll hM ?_ | refine lp hM ?_) | ((with_reducible refine at_store ?_); first | (refine ls hM ?_; clear hM; intro wx hM) | (refine lw hM ?_; clear hM; intro wx hM) | (refine lt hM ?_; clear hM; intro wx hM)) | ((with_reducible refine at_alloc ?_); refine lz hM ?_; clear hM; intro gx wx hM) | ((with_reducible refine at_box ?_); refine lb hM ?_; clear hM; intro gx wx hM))
            go_meet
            case rel =>
              obtain ⟨s1, s2, s3, s4⟩ := HS.out
              refine ⟨_, T0, T1, G0, G1, fp2, Lib.hid ⟨?_, .inl ?_, by omega, by omega⟩, hM⟩
              · split
                · exact ok_down s1
                · exact s1
              · split
                · exact str_down s2
                · exact s2
        case rest =>
          obtain ⟨S', T0', T1', G0', G1', fp', HS', hM⟩ := hcut
          have HSE := Lib.hid (fun w' (h : Mem [] w [⟨gx, 52, 4, opCs ⟨kk, sd, tx, nn⟩⟩, ⟨gt, 50, 2, #[.string (bstr G0'), .string (bstr G1')]⟩, ⟨gs, 50, 2, #[.string (bstr T0'), .string (bstr T1')]⟩] [lineT fp' g S'] w') => ses_any (HasLine.of h))
          obtain ⟨s1, s2, s3, s4⟩ := HS'.out
          rcases s2 with s2 | ⟨hne, s2⟩
          · have hse := s2.ses
            have c1 : (S'.ses != S.ses) = false := by simp [hse]
            have HS2 := Lib.hid s2
            have HSS := Lib.hid hse
            clear s1 s2 s3 s4 hse hs01
            go_wp2_with (first | ((with_reducible refine (HSE.out _ hM).mono ?_); rintro e w1 ⟨rfl, rfl⟩) | ((first | with_reducible refine at_load ?_ | ((with_reducible refine at_load_g ?_ ?_); (· rfl))); first | refine lc hM ?_ | refine ll hM ?_ | refine lp hM ?_) | ((with_reducible refine at_store ?_); first | (refine ls hM ?_; clear hM; intro wx hM) | (refine lw hM ?_; clear hM; intro wx hM) | (refine lt hM ?_; clear hM; intro wx hM)) | ((with_reducible refine at_alloc ?_); refine lz hM ?_; clear hM; intro gx wx hM) | ((with_reducible refine at_box ?_); refine lb hM ?_; clear hM; intro gx wx hM))
            obtain ⟨s1, s2, s3, s4⟩ := HS'.out
            exact ⟨⟨k + 1, S', T0', T1', G0', G1', fp', by omega, by omega, by go_num, by rw [HSS.out], Lib.hid ⟨s1, by rw [HSS.out]; exact HS2.out, s3, s4⟩, hM.subL (List.sublist_cons_self _ _)⟩, by simp [intOf]; omega⟩
          · have c1 : (S'.ses != S.ses) = true := by simpa using hne
            have HS2 := Lib.hid s2
            clear s1 s2 s3 s4 hne hs01
            go_wp2_with (first | ((with_reducible refine (HSE.out _ hM).mono ?_); rintro e w1 ⟨rfl, rfl⟩) | ((first | with_reducible refine at_load ?_ | ((with_reducible refine at_load_g ?_ ?_); (· rfl))); first | refine lc hM ?_ | refine ll hM ?_ | refine lp hM ?_) | ((with_reducible refine at_store ?_); first | (refine ls hM ?_; clear hM; intro wx hM) | (refine lw hM ?_; clear hM; intro wx hM) | (refine lt hM ?_; clear hM; intro wx hM)) | ((with_reducible refine at_alloc ?_); refine lz hM ?_; clear hM; intro gx wx hM) | ((with_reducible refine at_box ?_); refine lb hM ?_; clear hM; intro gx wx hM))
            obtain ⟨s1, s2, s3, s4⟩ := HS'.out
            exact ⟨⟨k + 1, S', [], [], [], [], fp', by omega, by omega, by go_num, rfl, Lib.hid ⟨s1, HS2.out, by simp, by simp⟩, hM.subL (List.sublist_cons_self _ _)⟩, by simp [intOf]; omega⟩
      · have HB2 : k = m ∨ (k < m ∧ k = 30) := by omega
        rcases HB2 with h | ⟨h, h2⟩
        · subst h
          clear hlt
          go_wp2_with (first | ((first | with_reducible refine at_load ?_ | ((with_reducible refine at_load_g ?_ ?_); (· rfl))); first | refine lc hM ?_ | refine ll hM ?_ | refine lp hM ?_) | ((with_reducible refine at_store ?_); first | (refine ls hM ?_; clear hM; intro wx hM) | (refine lw hM ?_; clear hM; intro wx hM) | (refine lt hM ?_; clear hM; intro wx hM)) | ((with_reducible refine at_alloc ?_); refine lz hM ?_; clear hM; intro gx wx hM) | ((with_reducible refine at_box ?_); refine lb hM ?_; clear hM; intro gx wx hM))
          go_ret
          exact ⟨rfl, Mem.below hM⟩
        · subst h2
          have hk1 : ((30 : Nat) : Int) < (m : Int) := by omega
          clear hlt
          go_wp2_with (first | ((first | with_reducible refine at_load ?_ | ((with_reducible refine at_load_g ?_ ?_); (· rfl))); first | refine lc hM ?_ | refine ll hM ?_ | refine lp hM ?_) | ((with_reducible refine at_store ?_); first | (refine ls hM ?_; clear hM; intro wx hM) | (refine lw hM ?_; clear hM; intro wx hM) | (refine lt hM ?_; clear hM; intro wx hM)) | ((with_reducible refine at_alloc ?_); refine lz hM ?_; clear hM; intro gx wx hM) | ((with_reducible refine at_box ?_); refine lb hM ?_; clear hM; intro gx wx hM))
          go_ret
          exact ⟨rfl, Mem.below hM⟩
  · obtain ⟨z, hzz⟩ : ∃ z, chk r d p us = z := ⟨_, rfl⟩
    have c1 : (z != 0) = true := by rw [← hzz]; simpa using hz
    have HN := Lib.hid (fun (A : Option Addr) (c : Nat) w hW => new_no (w := w) r d p A us.length c us hW (by omega) hz)
    rw [hzz] at HN
    clear hz hzz hul
    go_enter Try.func5, Try.ntmps5
    go_wp2_with (first | ((with_reducible refine (known_any _).mono ?_); rintro e w1 ⟨rfl, hb⟩; replace hM := hM.step hb; clear hb) | ((with_reducible refine (HC.out _ hM.below).mono ?_); rintro e w1 ⟨A1, c1', rfl, hb⟩; replace hM := hM.newThing hb; clear hb) | ((with_reducible refine (config_in (wT_in hM (List.Mem.head _)) HU.out).mono ?_); rintro e w1 ⟨A2, c2, rfl, hb⟩; replace hM := hM.newThing hb; clear hb) | ((with_reducible refine (HN.out _ _ _ (winT_in hM (List.Mem.head _))).mono ?_); rintro e w1 ⟨rfl, hb⟩; replace hM := hM.step hb; clear hb) | ((first | with_reducible refine at_load ?_ | ((with_reducible refine at_load_g ?_ ?_); (· rfl))); first | refine lc hM ?_ | refine ll hM ?_ | refine lp hM ?_) | ((with_reducible refine at_store ?_); first | (refine ls hM ?_; clear hM; intro wx hM) | (refine lw hM ?_; clear hM; intro wx hM) | (refine lt hM ?_; clear hM; intro wx hM)) | ((with_reducible refine at_alloc ?_); refine lz hM ?_; clear hM; intro gx wx hM) | ((with_reducible refine at_box ?_); refine lb hM ?_; clear hM; intro gx wx hM))
    go_ret
    exact ⟨rfl, hM.below⟩
end Go.Proofs.Ytenflgbaibjeoaa
