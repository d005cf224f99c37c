/- LineDirections: the walk. -/
import Derived.Test.YtenflgbaibjeoaaLqn
import Derived.Test.YtenflgbaibjeoaaLqm
import Derived.Test.YtenflgbaibjeoaaLqj
import Derived.Test.YtenflgbaibjeoaaLqa
import Derived.Test.YtenflgbaibjeoaaRgm
import Derived.Deep.CutRange
import Derived.Deep.CutBlock
namespace Go.Thg
theorem wp_region_allHM {P : Go.Program} {w w0 : Go.World} {G : List Nat} {L : List Ent} {R : List Thing} {Q : Go.Exit → Go.Act → Go.World → Prop} (hM : Mem G w0 L R w) {id : Nat} {a : Go.Act} {l : List Go.Oper} (S : Go.World → Prop) (hm : P.follows .mixedOrders = true)
    (h : ∀ wd, Mem G w0 L R wd → Go.Bul.wpAllH P l.toArray Q S (Array.replicate l.toArray.size false) a wd) : (Go.Code.region id l.toArray true).wp P Q a w :=
  Go.Bul.wp_region_allH S hm (h _ hM.drew)
theorem Mem.swap2 {G : List Nat} {w0 w : Go.World} {L : List Ent} {a b : Thing} (h : Mem G w0 L [a, b] w) : Mem G w0 L [b, a] w := h.perm (List.Perm.swap _ _ _)
end Go.Thg
namespace Go.Proofs.Ytenflgbaibjeoaa
open Go Go.RowKit Go.Bul Go.Thg Go.Lin
theorem wait_0 {G : List Nat} {w0 w : World} {L : List Ent} {R : List Thing} {p : Nat} {S : Ln} (h : HasLine G w0 L R p S w) : Calls Try.prog 36 #[.pointer (some ⟨p, 0, none⟩), .int .i64 0] w fun e w' => e = .returned (.int .i64 (S.e0.wait.length : Nat)) ∧ w = w' := waiting_any 0 h
theorem wait_1 {G : List Nat} {w0 w : World} {L : List Ent} {R : List Thing} {p : Nat} {S : Ln} (h : HasLine G w0 L R p S w) : Calls Try.prog 36 #[.pointer (some ⟨p, 0, none⟩), .int .i64 1] w fun e w' => e = .returned (.int .i64 (S.e1.wait.length : Nat)) ∧ w = w' := waiting_any 1 h
theorem two_lines {G : List Nat} {w0 w : World} {L : List Ent} {R : List Thing} {a b : List Nat} {p q : Nat} {S Z : Ln} (_ : Mem G w0 L (lineT a p S :: lineT b q Z :: R) w) : ∃ x y, x = p ∧ y = q := ⟨_, _, rfl, rfl⟩
attribute [local irreducible] HasLine newS chk connected
set_option maxRecDepth 20000 in
set_option maxHeartbeats 40000000 in
theorem directions_any (r d p : Int) (A : Option Addr) (n c : Nat) (ws : List Win) (B : Option Addr) (m c3 : Nat) (os : List OpR) (w : World) (hI : WinsIn w A n c ws) (hO : OpsIn w B m os) :
    Calls Try.prog 10 #[cfgV r d p A n c, .slice B m c3] w fun e w' => e = .returned (.bool true) ∧ Below w.heap.size w w' := by
  have hM := Mem.start [] w
  have HC := Lib.hid (fun w' hb => cut_in (r := r) (d := d) (p := p) (hI.keep (w' := w') hb))
  obtain ⟨us, hus⟩ : ∃ us, ws.take 40 = us := ⟨_, rfl⟩
  have hul : us.length ≤ 40 := by rw [← hus, List.length_take]; omega
  rw [hus] at HC
  have HU := Lib.hid hul
  clear hus hI
  have HO := Lib.hid hO
  clear hO
  by_cases hz : chk r d p us = 0
  · have HN := Lib.hid (fun (A : Option Addr) (c : Nat) w hW => new_any (w := w) r d p A us.length c us hW (by omega) hz)
    have HK := Lib.hid (fit_new hz)
    generalize newS r d p us = S0 at HN HK
    clear hz hul
    go_enter Try.func10, Try.ntmps10
    go_wp2_with (first | ((with_reducible refine (known_any _).mono ?_); rintro e w1 ⟨rfl, hb⟩; replace hM := hM.step hb; clear hb) | ((with_reducible refine (HC.out _ hM.below).mono ?_); rintro e w1 ⟨A1, c1', rfl, hb⟩; replace hM := hM.newThing hb; clear hb) | ((with_reducible refine (config_in (wT_in hM (List.Mem.head _)) HU.out).mono ?_); rintro e w1 ⟨A2, c2, rfl, hb⟩; replace hM := hM.newThing hb; clear hb) | ((with_reducible refine (HN.out _ _ _ (winT_in hM (List.Mem.head _))).mono ?_); rintro e w1 ⟨g, rfl, hH⟩; obtain ⟨fp, hM2⟩ := (HasLine.frame hM hH).ex; clear hM hH; have hM := hM2; clear hM2) | ((first | with_reducible refine at_load ?_ | ((with_reducible refine at_load_g ?_ ?_); (· rfl))); first | refine lc hM ?_ | refine ll hM ?_ | refine lp hM ?_) | ((with_reducible refine at_store ?_); first | (refine ls hM ?_; clear hM; intro wx hM) | (refine lw hM ?_; clear hM; intro wx hM) | (refine lt hM ?_; clear hM; intro wx hM)) | ((with_reducible refine at_alloc ?_); refine lz hM ?_; clear hM; intro gx wx hM) | ((with_reducible refine at_box ?_); refine lb hM ?_; clear hM; intro gx wx hM))
    have hM := (hM.subL (List.nil_sublist _)).subR (R' := [_, _]) (List.Sublist.cons_cons _ (List.Sublist.cons _ (List.Sublist.cons _ (List.Sublist.cons_cons _ (List.nil_sublist _)))))
    obtain ⟨g2, g1, hg2, hg1⟩ := two_lines hM
    subst hg2 hg1
    have M0 := Lib.hid hM
    clear hM HC HN
    go_loopw [9] (fun i wr => ∃ (k : Nat) (S Z : Ln) (fs fz : List Nat), k ≤ m ∧ k ≤ 30 ∧ i = .int .i64 (k : Nat) ∧ Hid (Fit (200 * k) S ∧ Fit (200 * k) Z ∧ Dir S Z) ∧ Mem [] w [] [lineT fz g2 Z, lineT fs g1 S] wr) (fun i _ => 30 - (intOf i).toNat)
    case atStart => exact ⟨0, S0, S0, _, _, by omega, by omega, rfl, Lib.hid ⟨HK.out, HK.out, Dir.rfl' _⟩, M0.out⟩
    case round =>
      obtain ⟨k, S, Z, fs, fz, hk, hk30, rfl, HS, hM⟩ := hrel
      clear M0
      by_cases hlt : k < m ∧ k < 30
      · obtain ⟨hkm, hk3⟩ := hlt
        have hkl : k < os.length := by have := HO.out.len; omega
        obtain ⟨gb, ob, rfl, hgl, _⟩ := HO.out.at_ (by omega)
        have HX := Lib.hid ((HO.out.keep hM.below).cell k hkl)
        have hok := HO.out.ok _ (List.getElem_mem hkl)
        obtain ⟨o, ho⟩ : ∃ o, o = os[k] := ⟨_, rfl⟩
        rw [← ho] at HX hok
        clear ho
        have hk0 : (0 : Int) ≤ (k : Int) := Int.natCast_nonneg _
        have hk1 : (k : Int) < (m : Int) := by omega
        have hk2 : (k : Int) < 30 := by omega
        have HB := Lib.hid (fun w => bound_any o w hok)
        have hok2 := boundO_ok hok
        have htx := boundO_size o
        generalize boundO o = v at HB hok2 htx
        obtain ⟨kk, sd, tx, nn⟩ := v
        obtain ⟨b1, b2, b3, b4, b5, b6⟩ := hok2
        simp only at b1 b2 b3 b4 b5 b6 htx
        go_upto_block 2 with (first | ((with_reducible refine at_load ?_); refine lr HX.out ?_) | ((with_reducible refine (HB.out _).mono ?_); rintro e w1 ⟨rfl, hb⟩; replace hM := hM.step hb; clear hb) | (refine lz hM ?_; clear hM; intro gx wx hM) | ((first | with_reducible refine at_load ?_ | ((with_reducible refine at_load_g ?_ ?_); (· rfl))); first | refine lc hM ?_ | refine ll hM ?_ | refine lp hM ?_) | ((with_reducible refine at_store ?_); first | (refine ls hM ?_; clear hM; intro wx hM) | (refine lw hM ?_; clear hM; intro wx hM) | (refine lt hM ?_; clear hM; intro wx hM)) | ((with_reducible refine at_alloc ?_); refine lz hM ?_; clear hM; intro gx wx hM) | ((with_reducible refine at_box ?_); refine lb hM ?_; clear hM; intro gx wx hM))
        clear hgl HB HX b1 b2 b3 b4
        go_cut [11, 12, 13, 14] from 52 to 148 (fun _ _ _ _ wc => ∃ (S' Z' : Ln) (fs' fz' : List Nat), Hid (Fit (200 * k + 200) S' ∧ Fit (200 * k + 200) Z' ∧ Dir S' Z') ∧ Mem [] w [⟨gx, 52, 4, opCs ⟨kk, sd, tx, nn⟩⟩] [lineT fz' g2 Z', lineT fs' g1 S'] wc)
        case first =>
          obtain ⟨f1, f2, hd⟩ := HS.out
          have hnw := f1.ok.now1
          have hnw2 := f1.ok.now2
          rcases (show kk % 7 = 0 ∨ kk % 7 = 1 ∨ kk % 7 = 2 ∨ kk % 7 = 3 ∨ kk % 7 = 4 ∨ kk % 7 = 5 ∨ kk % 7 = 6 by omega) with hq | hq | hq | hq | hq | hq | hq
          · have HD1 := Lib.hid (fun w' (h : Mem [] w [⟨gx, 52, 4, opCs ⟨kk, sd, tx, nn⟩⟩] [lineT fz g2 Z, lineT fs g1 S] w') => send_any sd tx (HasLine.of h.swap2) (by have := f1.len; omega))
            have HF1 := Lib.hid (fit_send f1 (by omega) sd (nums tx) (by rw [nums_length]; omega))
            by_cases h1 : sd = 1
            · subst h1
              have HQ := Lib.hid (dir_send1 hd (nums tx))
              have HF2 := Lib.hid (f2.mono (C := 200 * k + 200) (by omega))
              clear f1 f2 hd
              go_wp2_with (first | ((with_reducible refine (HD1.out _ hM).mono ?_); rintro e w1 ⟨rfl, hH⟩; obtain ⟨fs2, hM2⟩ := hH.ex; clear hM hH; have hM := hM2.swap2; clear hM2) | ((first | with_reducible refine at_load ?_ | ((with_reducible refine at_load_g ?_ ?_); (· rfl))); first | refine lc hM ?_ | refine ll hM ?_ | refine lp hM ?_) | ((with_reducible refine at_store ?_); first | (refine ls hM ?_; clear hM; intro wx hM) | (refine lw hM ?_; clear hM; intro wx hM) | (refine lt hM ?_; clear hM; intro wx hM)) | ((with_reducible refine at_alloc ?_); refine lz hM ?_; clear hM; intro gx wx hM) | ((with_reducible refine at_box ?_); refine lb hM ?_; clear hM; intro gx wx hM))
              go_meet
              case rel => exact ⟨_, Z, fs2, fz, Lib.hid ⟨HF1.out, HF2.out, HQ.out⟩, hM⟩
            · have HQ := Lib.hid (dir_sendS hd h1 (nums tx))
              have HF2 := Lib.hid (fit_send f2 (by omega) sd (nums tx) (by rw [nums_length]; omega))
              have c1 : (sd != 1) = true := by simpa using h1
              generalize hS' : sendS S sd (nums tx) = S' at HD1 HF1 HQ
              have HD2 := Lib.hid (fun fs w' (h : Mem [] w [⟨gx, 52, 4, opCs ⟨kk, sd, tx, nn⟩⟩] [lineT fz g2 Z, lineT fs g1 S'] w') => send_any sd tx (HasLine.of h) (by have := f2.len; omega))
              clear f1 f2 hd h1 hS'
              go_wp2_with (first | ((with_reducible refine (HD1.out _ hM).mono ?_); rintro e w1 ⟨rfl, hH⟩; obtain ⟨fs2, hM2⟩ := hH.ex; clear hM hH HD1; have hM := hM2.swap2; clear hM2) | ((with_reducible refine (HD2.out _ _ hM).mono ?_); rintro e w1 ⟨rfl, hH⟩; obtain ⟨fz2, hM2⟩ := hH.ex; clear hM hH; have hM := hM2; clear hM2) | ((first | with_reducible refine at_load ?_ | ((with_reducible refine at_load_g ?_ ?_); (· rfl))); first | refine lc hM ?_ | refine ll hM ?_ | refine lp hM ?_) | ((with_reducible refine at_store ?_); first | (refine ls hM ?_; clear hM; intro wx hM) | (refine lw hM ?_; clear hM; intro wx hM) | (refine lt hM ?_; clear hM; intro wx hM)) | ((with_reducible refine at_alloc ?_); refine lz hM ?_; clear hM; intro gx wx hM) | ((with_reducible refine at_box ?_); refine lb hM ?_; clear hM; intro gx wx hM))
              go_meet
              case rel => exact ⟨S', _, fs2, fz2, Lib.hid ⟨HF1.out, HF2.out, HQ.out⟩, hM⟩
          · have HD1 := Lib.hid (fun w' (h : Mem [] w [⟨gx, 52, 4, opCs ⟨kk, sd, tx, nn⟩⟩] [lineT fz g2 Z, lineT fs g1 S] w') => send_any sd tx (HasLine.of h.swap2) (by have := f1.len; omega))
            have HF1 := Lib.hid (fit_send f1 (by omega) sd (nums tx) (by rw [nums_length]; omega))
            by_cases h1 : sd = 1
            · subst h1
              have HQ := Lib.hid (dir_send1 hd (nums tx))
              have HF2 := Lib.hid (f2.mono (C := 200 * k + 200) (by omega))
              clear f1 f2 hd
              go_wp2_with (first | ((with_reducible refine (HD1.out _ hM).mono ?_); rintro e w1 ⟨rfl, hH⟩; obtain ⟨fs2, hM2⟩ := hH.ex; clear hM hH; have hM := hM2.swap2; clear hM2) | ((first | with_reducible refine at_load ?_ | ((with_reducible refine at_load_g ?_ ?_); (· rfl))); first | refine lc hM ?_ | refine ll hM ?_ | refine lp hM ?_) | ((with_reducible refine at_store ?_); first | (refine ls hM ?_; clear hM; intro wx hM) | (refine lw hM ?_; clear hM; intro wx hM) | (refine lt hM ?_; clear hM; intro wx hM)) | ((with_reducible refine at_alloc ?_); refine lz hM ?_; clear hM; intro gx wx hM) | ((with_reducible refine at_box ?_); refine lb hM ?_; clear hM; intro gx wx hM))
              go_meet
              case rel => exact ⟨_, Z, fs2, fz, Lib.hid ⟨HF1.out, HF2.out, HQ.out⟩, hM⟩
            · have HQ := Lib.hid (dir_sendS hd h1 (nums tx))
              have HF2 := Lib.hid (fit_send f2 (by omega) sd (nums tx) (by rw [nums_length]; omega))
              have c1 : (sd != 1) = true := by simpa using h1
              generalize hS' : sendS S sd (nums tx) = S' at HD1 HF1 HQ
              have HD2 := Lib.hid (fun fs w' (h : Mem [] w [⟨gx, 52, 4, opCs ⟨kk, sd, tx, nn⟩⟩] [lineT fz g2 Z, lineT fs g1 S'] w') => send_any sd tx (HasLine.of h) (by have := f2.len; omega))
              clear f1 f2 hd h1 hS'
              go_wp2_with (first | ((with_reducible refine (HD1.out _ hM).mono ?_); rintro e w1 ⟨rfl, hH⟩; obtain ⟨fs2, hM2⟩ := hH.ex; clear hM hH HD1; have hM := hM2.swap2; clear hM2) | ((with_reducible refine (HD2.out _ _ hM).mono ?_); rintro e w1 ⟨rfl, hH⟩; obtain ⟨fz2, hM2⟩ := hH.ex; clear hM hH; have hM := hM2; clear hM2) | ((first | with_reducible refine at_load ?_ | ((with_reducible refine at_load_g ?_ ?_); (· rfl))); first | refine lc hM ?_ | refine ll hM ?_ | refine lp hM ?_) | ((with_reducible refine at_store ?_); first | (refine ls hM ?_; clear hM; intro wx hM) | (refine lw hM ?_; clear hM; intro wx hM) | (refine lt hM ?_; clear hM; intro wx hM)) | ((with_reducible refine at_alloc ?_); refine lz hM ?_; clear hM; intro gx wx hM) | ((with_reducible refine at_box ?_); refine lb hM ?_; clear hM; intro gx wx hM))
              go_meet
              case rel => exact ⟨S', _, fs2, fz2, Lib.hid ⟨HF1.out, HF2.out, HQ.out⟩, hM⟩
          · by_cases hn : nn < 0
            · have HD1 := Lib.hid (fun w' (h : Mem [] w [⟨gx, 52, 4, opCs ⟨kk, sd, tx, nn⟩⟩] [lineT fz g2 Z, lineT fs g1 S] w') => recv_no 1 nn (HasLine.of h.swap2) (.inr hn))
              have HD2 := Lib.hid (fun w' (h : Mem [] w [⟨gx, 52, 4, opCs ⟨kk, sd, tx, nn⟩⟩] [lineT fz g2 Z, lineT fs g1 S] w') => recv_no 1 nn (HasLine.of h) (.inr hn))
              have HF := Lib.hid (And.intro (f1.mono (C := 200 * k + 200) (by omega)) (And.intro (f2.mono (C := 200 * k + 200) (by omega)) hd))
              clear f1 f2 hd hn
              go_wp2_with (first | ((with_reducible refine (HD1.out _ hM).mono ?_); rintro e w1 ⟨rfl, rfl⟩) | ((with_reducible refine (HD2.out _ hM).mono ?_); rintro e w1 ⟨rfl, rfl⟩) | ((first | with_reducible refine at_load ?_ | ((with_reducible refine at_load_g ?_ ?_); (· rfl))); first | refine lc hM ?_ | refine ll hM ?_ | refine lp hM ?_) | ((with_reducible refine at_store ?_); first | (refine ls hM ?_; clear hM; intro wx hM) | (refine lw hM ?_; clear hM; intro wx hM) | (refine lt hM ?_; clear hM; intro wx hM)) | ((with_reducible refine at_alloc ?_); refine lz hM ?_; clear hM; intro gx wx hM) | ((with_reducible refine at_box ?_); refine lb hM ?_; clear hM; intro gx wx hM))
              go_meet
              case rel => exact ⟨S, Z, fs, fz, HF, hM⟩
            · have HD1 := Lib.hid (fun w' (h : Mem [] w [⟨gx, 52, 4, opCs ⟨kk, sd, tx, nn⟩⟩] [lineT fz g2 Z, lineT fs g1 S] w') => recv_1 nn (HasLine.of h.swap2) (by omega) (by have := f1.len; omega))
              have HF := Lib.hid (And.intro ((fit_recv1 f1 nn.toNat).mono (C := 200 * k + 200) (by omega)) (And.intro ((fit_recv1 f2 nn.toNat).mono (C := 200 * k + 200) (by omega)) (dir_recv hd nn.toNat)))
              have ha := hd.a
              generalize hS' : ({ S with e1 := { S.e1 with arr := S.e1.arr.drop nn.toNat } } : Ln) = S' at HD1 HF
              have HD2 := Lib.hid (fun fs w' (h : Mem [] w [⟨gx, 52, 4, opCs ⟨kk, sd, tx, nn⟩⟩] [lineT fz g2 Z, lineT fs g1 S'] w') => recv_1 nn (HasLine.of h) (by omega) (by have := f2.len; omega))
              rw [ha] at HD1
              clear f1 f2 hd hn hS' ha
              go_wp2_with (first | ((with_reducible refine (HD1.out _ hM).mono ?_); rintro e w1 ⟨rfl, hH⟩; obtain ⟨fs2, hM2⟩ := hH.ex; clear hM hH HD1; have hM := hM2.swap2; clear hM2) | ((with_reducible refine (HD2.out _ _ hM).mono ?_); rintro e w1 ⟨rfl, hH⟩; obtain ⟨fz2, hM2⟩ := hH.ex; clear hM hH; have hM := hM2; clear hM2) | ((first | with_reducible refine at_load ?_ | ((with_reducible refine at_load_g ?_ ?_); (· rfl))); first | refine lc hM ?_ | refine ll hM ?_ | refine lp hM ?_) | ((with_reducible refine at_store ?_); first | (refine ls hM ?_; clear hM; intro wx hM) | (refine lw hM ?_; clear hM; intro wx hM) | (refine lt hM ?_; clear hM; intro wx hM)) | ((with_reducible refine at_alloc ?_); refine lz hM ?_; clear hM; intro gx wx hM) | ((with_reducible refine at_box ?_); refine lb hM ?_; clear hM; intro gx wx hM))
              go_meet
              case rel => exact ⟨S', _, fs2, fz2, HF, hM⟩
          · by_cases hn : nn < 0
            · have HD1 := Lib.hid (fun w' (h : Mem [] w [⟨gx, 52, 4, opCs ⟨kk, sd, tx, nn⟩⟩] [lineT fz g2 Z, lineT fs g1 S] w') => recv_no 1 nn (HasLine.of h.swap2) (.inr hn))
              have HD2 := Lib.hid (fun w' (h : Mem [] w [⟨gx, 52, 4, opCs ⟨kk, sd, tx, nn⟩⟩] [lineT fz g2 Z, lineT fs g1 S] w') => recv_no 1 nn (HasLine.of h) (.inr hn))
              have HF := Lib.hid (And.intro (f1.mono (C := 200 * k + 200) (by omega)) (And.intro (f2.mono (C := 200 * k + 200) (by omega)) hd))
              clear f1 f2 hd hn
              go_wp2_with (first | ((with_reducible refine (HD1.out _ hM).mono ?_); rintro e w1 ⟨rfl, rfl⟩) | ((with_reducible refine (HD2.out _ hM).mono ?_); rintro e w1 ⟨rfl, rfl⟩) | ((first | with_reducible refine at_load ?_ | ((with_reducible refine at_load_g ?_ ?_); (· rfl))); first | refine lc hM ?_ | refine ll hM ?_ | refine lp hM ?_) | ((with_reducible refine at_store ?_); first | (refine ls hM ?_; clear hM; intro wx hM) | (refine lw hM ?_; clear hM; intro wx hM) | (refine lt hM ?_; clear hM; intro wx hM)) | ((with_reducible refine at_alloc ?_); refine lz hM ?_; clear hM; intro gx wx hM) | ((with_reducible refine at_box ?_); refine lb hM ?_; clear hM; intro gx wx hM))
              go_meet
              case rel => exact ⟨S, Z, fs, fz, HF, hM⟩
            · have HD1 := Lib.hid (fun w' (h : Mem [] w [⟨gx, 52, 4, opCs ⟨kk, sd, tx, nn⟩⟩] [lineT fz g2 Z, lineT fs g1 S] w') => recv_1 nn (HasLine.of h.swap2) (by omega) (by have := f1.len; omega))
              have HF := Lib.hid (And.intro ((fit_recv1 f1 nn.toNat).mono (C := 200 * k + 200) (by omega)) (And.intro ((fit_recv1 f2 nn.toNat).mono (C := 200 * k + 200) (by omega)) (dir_recv hd nn.toNat)))
              have ha := hd.a
              generalize hS' : ({ S with e1 := { S.e1 with arr := S.e1.arr.drop nn.toNat } } : Ln) = S' at HD1 HF
              have HD2 := Lib.hid (fun fs w' (h : Mem [] w [⟨gx, 52, 4, opCs ⟨kk, sd, tx, nn⟩⟩] [lineT fz g2 Z, lineT fs g1 S'] w') => recv_1 nn (HasLine.of h) (by omega) (by have := f2.len; omega))
              rw [ha] at HD1
              clear f1 f2 hd hn hS' ha
              go_wp2_with (first | ((with_reducible refine (HD1.out _ hM).mono ?_); rintro e w1 ⟨rfl, hH⟩; obtain ⟨fs2, hM2⟩ := hH.ex; clear hM hH HD1; have hM := hM2.swap2; clear hM2) | ((with_reducible refine (HD2.out _ _ hM).mono ?_); rintro e w1 ⟨rfl, hH⟩; obtain ⟨fz2, hM2⟩ := hH.ex; clear hM hH; have hM := hM2; clear hM2) | ((first | with_reducible refine at_load ?_ | ((with_reducible refine at_load_g ?_ ?_); (· rfl))); first | refine lc hM ?_ | refine ll hM ?_ | refine lp hM ?_) | ((with_reducible refine at_store ?_); first | (refine ls hM ?_; clear hM; intro wx hM) | (refine lw hM ?_; clear hM; intro wx hM) | (refine lt hM ?_; clear hM; intro wx hM)) | ((with_reducible refine at_alloc ?_); refine lz hM ?_; clear hM; intro gx wx hM) | ((with_reducible refine at_box ?_); refine lb hM ?_; clear hM; intro gx wx hM))
              go_meet
              case rel => exact ⟨S', _, fs2, fz2, HF, hM⟩
          · by_cases hn : nn < 0 ∨ 10000000 - S.now < nn
            · have hno := hd.now
              have HD1 := Lib.hid (fun w' (h : Mem [] w [⟨gx, 52, 4, opCs ⟨kk, sd, tx, nn⟩⟩] [lineT fz g2 Z, lineT fs g1 S] w') => adv_no nn (HasLine.of h.swap2) f1.ok hn)
              have HD2 := Lib.hid (fun w' (h : Mem [] w [⟨gx, 52, 4, opCs ⟨kk, sd, tx, nn⟩⟩] [lineT fz g2 Z, lineT fs g1 S] w') => adv_no nn (HasLine.of h) f2.ok (hno ▸ hn))
              have HF := Lib.hid (And.intro (f1.mono (C := 200 * k + 200) (by omega)) (And.intro (f2.mono (C := 200 * k + 200) (by omega)) hd))
              clear f1 f2 hd hn hno
              go_wp2_with (first | ((first | with_reducible refine at_load ?_ | ((with_reducible refine at_load_g ?_ ?_); (· rfl))); first | refine lc hM ?_ | refine ll hM ?_ | refine lp hM ?_) | ((with_reducible refine at_store ?_); first | (refine ls hM ?_; clear hM; intro wx hM) | (refine lw hM ?_; clear hM; intro wx hM) | (refine lt hM ?_; clear hM; intro wx hM)) | ((with_reducible refine at_alloc ?_); refine lz hM ?_; clear hM; intro gx wx hM) | ((with_reducible refine at_box ?_); refine lb hM ?_; clear hM; intro gx wx hM))
              refine wp_region_allHM hM (fun w' => Blk w' gx 52 (opCs ⟨kk, sd, tx, nn⟩)) (by kernel_rfl) ?_
              clear hM
              intro wd hM
              have hS := hM.blk (List.Mem.head _)
              refine wpAllH_takes [0, 1, 2, 4, 5, 6] (by kernel_rfl) (fun _ _ _ _ _ h => h) hS (by kernel_rfl) ?_
              simp only [pickOps, List.filterMap_cons, List.filterMap_nil, List.getElem?_cons_zero, List.getElem?_cons_succ]
              repeat ((with_reducible apply wpHeld_step); (· rfl); (· (intro w hSw; first | (go_simp; rfl) | (exact held_load ((hSw.cell _).trans rfl)))); intro K hK; go_simp; (with_reducible refine hK _ ?_); clear hK K)
              refine wpHeld_nil ?_
              refine wpAllH_one 3 rfl (by kernel_rfl) ?_
              go_wp2_with fail
              refine (HD1.out _ hM).mono ?_
              rintro e w1 ⟨rfl, rfl⟩
              go_wp2_with fail
              refine then_normal ⟨hS, ?_⟩
              refine wpAllH_one 7 rfl (by kernel_rfl) ?_
              go_wp2_with fail
              refine (HD2.out _ hM).mono ?_
              rintro e w1 ⟨rfl, rfl⟩
              go_wp2_with fail
              refine then_normal ⟨hS, ?_⟩
              refine wpAllH_takes [8] (by kernel_rfl) (fun _ _ _ _ _ h => h) hS (by kernel_rfl) ?_
              simp only [pickOps, List.filterMap_cons, List.filterMap_nil, List.getElem?_cons_zero, List.getElem?_cons_succ]
              repeat ((with_reducible apply wpHeld_step); (· rfl); (· (intro w hSw; first | (go_simp; rfl) | (fail))); intro K hK; go_simp; (with_reducible refine hK _ ?_); clear hK K)
              refine wpHeld_nil ?_
              refine wpAllH_done (by kernel_rfl) ?_
              go_wp2_with fail
              go_meet
              case rel => exact ⟨S, Z, fs, fz, HF, hM⟩
            · have hno := hd.now
              have HD1 := Lib.hid (fun w' (h : Mem [] w [⟨gx, 52, 4, opCs ⟨kk, sd, tx, nn⟩⟩] [lineT fz g2 Z, lineT fs g1 S] w') => adv_any nn (HasLine.of h.swap2) f1.ok (by omega) (by omega))
              have HF := Lib.hid (And.intro ((fit_passN f1 nn.toNat (by omega)).mono (C := 200 * k + 200) (by omega)) (And.intro ((fit_passN f2 nn.toNat (by omega)).mono (C := 200 * k + 200) (by omega)) (dir_passN hd nn.toNat)))
              generalize hS' : passN nn.toNat S = S' at HD1 HF
              have HD2 := Lib.hid (fun fs w' (h : Mem [] w [⟨gx, 52, 4, opCs ⟨kk, sd, tx, nn⟩⟩] [lineT fz g2 Z, lineT fs g1 S'] w') => adv_any nn (HasLine.of h) f2.ok (by omega) (by omega))
              clear f1 f2 hd hn hno hS'
              go_wp2_with (first | ((first | with_reducible refine at_load ?_ | ((with_reducible refine at_load_g ?_ ?_); (· rfl))); first | refine lc hM ?_ | refine ll hM ?_ | refine lp hM ?_) | ((with_reducible refine at_store ?_); first | (refine ls hM ?_; clear hM; intro wx hM) | (refine lw hM ?_; clear hM; intro wx hM) | (refine lt hM ?_; clear hM; intro wx hM)) | ((with_reducible refine at_alloc ?_); refine lz hM ?_; clear hM; intro gx wx hM) | ((with_reducible refine at_box ?_); refine lb hM ?_; clear hM; intro gx wx hM))
              refine wp_region_allHM hM (fun w' => Blk w' gx 52 (opCs ⟨kk, sd, tx, nn⟩)) (by kernel_rfl) ?_
              clear hM
              intro wd hM
              have hS := hM.blk (List.Mem.head _)
              refine wpAllH_takes [0, 1, 2, 4, 5, 6] (by kernel_rfl) (fun _ _ _ _ _ h => h) hS (by kernel_rfl) ?_
              simp only [pickOps, List.filterMap_cons, List.filterMap_nil, List.getElem?_cons_zero, List.getElem?_cons_succ]
              repeat ((with_reducible apply wpHeld_step); (· rfl); (· (intro w hSw; first | (go_simp; rfl) | (exact held_load ((hSw.cell _).trans rfl)))); intro K hK; go_simp; (with_reducible refine hK _ ?_); clear hK K)
              refine wpHeld_nil ?_
              refine wpAllH_one 3 rfl (by kernel_rfl) ?_
              go_wp2_with fail
              refine (HD1.out _ hM).mono ?_
              clear hM hS
              rintro e w1 ⟨rfl, hH⟩
              obtain ⟨fs2, hM2⟩ := hH.ex
              have hM := hM2.swap2
              clear hM2 hH
              have hS := hM.blk (List.Mem.head _)
              go_wp2_with fail
              refine then_normal ⟨hS, ?_⟩
              refine wpAllH_one 7 rfl (by kernel_rfl) ?_
              go_wp2_with fail
              refine (HD2.out _ _ hM).mono ?_
              clear hM hS
              rintro e w1 ⟨rfl, hH⟩
              obtain ⟨fz2, hM⟩ := hH.ex
              clear hH
              have hS := hM.blk (List.Mem.head _)
              go_wp2_with fail
              refine then_normal ⟨hS, ?_⟩
              refine wpAllH_takes [8] (by kernel_rfl) (fun _ _ _ _ _ h => h) hS (by kernel_rfl) ?_
              simp only [pickOps, List.filterMap_cons, List.filterMap_nil, List.getElem?_cons_zero, List.getElem?_cons_succ]
              repeat ((with_reducible apply wpHeld_step); (· rfl); (· (intro w hSw; first | (go_simp; rfl) | (fail))); intro K hK; go_simp; (with_reducible refine hK _ ?_); clear hK K)
              refine wpHeld_nil ?_
              refine wpAllH_done (by kernel_rfl) ?_
              go_wp2_with fail
              go_meet
              case rel => exact ⟨S', _, fs2, fz2, HF, hM⟩
          · by_cases hn : nn < 0 ∨ 10000000 - S.now < nn
            · have hno := hd.now
              have HD1 := Lib.hid (fun w' (h : Mem [] w [⟨gx, 52, 4, opCs ⟨kk, sd, tx, nn⟩⟩] [lineT fz g2 Z, lineT fs g1 S] w') => adv_no nn (HasLine.of h.swap2) f1.ok hn)
              have HD2 := Lib.hid (fun w' (h : Mem [] w [⟨gx, 52, 4, opCs ⟨kk, sd, tx, nn⟩⟩] [lineT fz g2 Z, lineT fs g1 S] w') => adv_no nn (HasLine.of h) f2.ok (hno ▸ hn))
              have HF := Lib.hid (And.intro (f1.mono (C := 200 * k + 200) (by omega)) (And.intro (f2.mono (C := 200 * k + 200) (by omega)) hd))
              clear f1 f2 hd hn hno
              go_wp2_with (first | ((first | with_reducible refine at_load ?_ | ((with_reducible refine at_load_g ?_ ?_); (· rfl))); first | refine lc hM ?_ | refine ll hM ?_ | refine lp hM ?_) | ((with_reducible refine at_store ?_); first | (refine ls hM ?_; clear hM; intro wx hM) | (refine lw hM ?_; clear hM; intro wx hM) | (refine lt hM ?_; clear hM; intro wx hM)) | ((with_reducible refine at_alloc ?_); refine lz hM ?_; clear hM; intro gx wx hM) | ((with_reducible refine at_box ?_); refine lb hM ?_; clear hM; intro gx wx hM))
              refine wp_region_allHM hM (fun w' => Blk w' gx 52 (opCs ⟨kk, sd, tx, nn⟩)) (by kernel_rfl) ?_
              clear hM
              intro wd hM
              have hS := hM.blk (List.Mem.head _)
              refine wpAllH_takes [0, 1, 2, 4, 5, 6] (by kernel_rfl) (fun _ _ _ _ _ h => h) hS (by kernel_rfl) ?_
              simp only [pickOps, List.filterMap_cons, List.filterMap_nil, List.getElem?_cons_zero, List.getElem?_cons_succ]
              repeat ((with_reducible apply wpHeld_step); (· rfl); (· (intro w hSw; first | (go_simp; rfl) | (exact held_load ((hSw.cell _).trans rfl)))); intro K hK; go_simp; (with_reducible refine hK _ ?_); clear hK K)
              refine wpHeld_nil ?_
              refine wpAllH_one 3 rfl (by kernel_rfl) ?_
              go_wp2_with fail
              refine (HD1.out _ hM).mono ?_
              rintro e w1 ⟨rfl, rfl⟩
              go_wp2_with fail
              refine then_normal ⟨hS, ?_⟩
              refine wpAllH_one 7 rfl (by kernel_rfl) ?_
              go_wp2_with fail
              refine (HD2.out _ hM).mono ?_
              rintro e w1 ⟨rfl, rfl⟩
              go_wp2_with fail
              refine then_normal ⟨hS, ?_⟩
              refine wpAllH_takes [8] (by kernel_rfl) (fun _ _ _ _ _ h => h) hS (by kernel_rfl) ?_
              simp only [pickOps, List.filterMap_cons, List.filterMap_nil, List.getElem?_cons_zero, List.getElem?_cons_succ]
              repeat ((with_reducible apply wpHeld_step); (· rfl); (· (intro w hSw; first | (go_simp; rfl) | (fail))); intro K hK; go_simp; (with_reducible refine hK _ ?_); clear hK K)
              refine wpHeld_nil ?_
              refine wpAllH_done (by kernel_rfl) ?_
              go_wp2_with fail
              go_meet
              case rel => exact ⟨S, Z, fs, fz, HF, hM⟩
            · have hno := hd.now
              have HD1 := Lib.hid (fun w' (h : Mem [] w [⟨gx, 52, 4, opCs ⟨kk, sd, tx, nn⟩⟩] [lineT fz g2 Z, lineT fs g1 S] w') => adv_any nn (HasLine.of h.swap2) f1.ok (by omega) (by omega))
              have HF := Lib.hid (And.intro ((fit_passN f1 nn.toNat (by omega)).mono (C := 200 * k + 200) (by omega)) (And.intro ((fit_passN f2 nn.toNat (by omega)).mono (C := 200 * k + 200) (by omega)) (dir_passN hd nn.toNat)))
              generalize hS' : passN nn.toNat S = S' at HD1 HF
              have HD2 := Lib.hid (fun fs w' (h : Mem [] w [⟨gx, 52, 4, opCs ⟨kk, sd, tx, nn⟩⟩] [lineT fz g2 Z, lineT fs g1 S'] w') => adv_any nn (HasLine.of h) f2.ok (by omega) (by omega))
              clear f1 f2 hd hn hno hS'
              go_wp2_with (first | ((first | with_reducible refine at_load ?_ | ((with_reducible refine at_load_g ?_ ?_); (· rfl))); first | refine lc hM ?_ | refine ll hM ?_ | refine lp hM ?_) | ((with_reducible refine at_store ?_); first | (refine ls hM ?_; clear hM; intro wx hM) | (refine lw hM ?_; clear hM; intro wx hM) | (refine lt hM ?_; clear hM; intro wx hM)) | ((with_reducible refine at_alloc ?_); refine lz hM ?_; clear hM; intro gx wx hM) | ((with_reducible refine at_box ?_); refine lb hM ?_; clear hM; intro gx wx hM))
              refine wp_region_allHM hM (fun w' => Blk w' gx 52 (opCs ⟨kk, sd, tx, nn⟩)) (by kernel_rfl) ?_
              clear hM
              intro wd hM
              have hS := hM.blk (List.Mem.head _)
              refine wpAllH_takes [0, 1, 2, 4, 5, 6] (by kernel_rfl) (fun _ _ _ _ _ h => h) hS (by kernel_rfl) ?_
              simp only [pickOps, List.filterMap_cons, List.filterMap_nil, List.getElem?_cons_zero, List.getElem?_cons_succ]
              repeat ((with_reducible apply wpHeld_step); (· rfl); (· (intro w hSw; first | (go_simp; rfl) | (exact held_load ((hSw.cell _).trans rfl)))); intro K hK; go_simp; (with_reducible refine hK _ ?_); clear hK K)
              refine wpHeld_nil ?_
              refine wpAllH_one 3 rfl (by kernel_rfl) ?_
              go_wp2_with fail
              refine (HD1.out _ hM).mono ?_
              clear hM hS
              rintro e w1 ⟨rfl, hH⟩
              obtain ⟨fs2, hM2⟩ := hH.ex
              have hM := hM2.swap2
              clear hM2 hH
              have hS := hM.blk (List.Mem.head _)
              go_wp2_with fail
              refine then_normal ⟨hS, ?_⟩
              refine wpAllH_one 7 rfl (by kernel_rfl) ?_
              go_wp2_with fail
              refine (HD2.out _ _ hM).mono ?_
              clear hM hS
              rintro e w1 ⟨rfl, hH⟩
              obtain ⟨fz2, hM⟩ := hH.ex
              clear hH
              have hS := hM.blk (List.Mem.head _)
              go_wp2_with fail
              refine then_normal ⟨hS, ?_⟩
              refine wpAllH_takes [8] (by kernel_rfl) (fun _ _ _ _ _ h => h) hS (by kernel_rfl) ?_
              simp only [pickOps, List.filterMap_cons, List.filterMap_nil, List.getElem?_cons_zero, List.getElem?_cons_succ]
              repeat ((with_reducible apply wpHeld_step); (· rfl); (· (intro w hSw; first | (go_simp; rfl) | (fail))); intro K hK; go_simp; (with_reducible refine hK _ ?_); clear hK K)
              refine wpHeld_nil ?_
              refine wpAllH_done (by kernel_rfl) ?_
              go_wp2_with fail
              go_meet
              case rel => exact ⟨S', _, fs2, fz2, HF, hM⟩
          · have HD1 := Lib.hid (fun w' (h : Mem [] w [⟨gx, 52, 4, opCs ⟨kk, sd, tx, nn⟩⟩] [lineT fz g2 Z, lineT fs g1 S] w') => drop_any (HasLine.of h.swap2))
            have hu := hd.up
            have HF := Lib.hid (show Fit (200 * k + 200) (if S.up then downS S else S) ∧ Fit (200 * k + 200) (if Z.up then downS Z else Z) ∧ Dir (if S.up then downS S else S) (if Z.up then downS Z else Z) by
              rw [hu]
              split
              · exact ⟨(fit_down f1).mono (by omega), (fit_down f2).mono (by omega), dir_down hd⟩
              · exact ⟨f1.mono (by omega), f2.mono (by omega), hd⟩)
            have hdE : dropE S = dropE Z := by unfold dropE; rw [hu]
            generalize hS' : (if S.up then downS S else S : Ln) = S' at HD1 HF
            have HD2 := Lib.hid (fun fs w' (h : Mem [] w [⟨gx, 52, 4, opCs ⟨kk, sd, tx, nn⟩⟩] [lineT fz g2 Z, lineT fs g1 S'] w') => drop_any (HasLine.of h))
            rw [hdE] at HD1
            generalize dropE Z = de at HD1 HD2
            clear f1 f2 hd hu hS' hdE
            go_wp2_with (first | ((with_reducible refine (HD1.out _ hM).mono ?_); rintro e w1 ⟨rfl, hH⟩; obtain ⟨fs2, hM2⟩ := hH.ex; clear hM hH HD1; have hM := hM2.swap2; clear hM2) | ((with_reducible refine (HD2.out _ _ hM).mono ?_); rintro e w1 ⟨rfl, hH⟩; obtain ⟨fz2, hM2⟩ := hH.ex; clear hM hH; have hM := hM2; clear hM2) | ((first | with_reducible refine at_load ?_ | ((with_reducible refine at_load_g ?_ ?_); (· rfl))); first | refine lc hM ?_ | refine ll hM ?_ | refine lp hM ?_) | ((with_reducible refine at_store ?_); first | (refine ls hM ?_; clear hM; intro wx hM) | (refine lw hM ?_; clear hM; intro wx hM) | (refine lt hM ?_; clear hM; intro wx hM)) | ((with_reducible refine at_alloc ?_); refine lz hM ?_; clear hM; intro gx wx hM) | ((with_reducible refine at_box ?_); refine lb hM ?_; clear hM; intro gx wx hM))
            go_meet
            case rel => exact ⟨S', _, fs2, fz2, HF, hM⟩
        case rest =>
          obtain ⟨S', Z', fs', fz', HS', hM⟩ := hcut
          obtain ⟨f1, f2, hd⟩ := HS'.out
          have hL1 := f1.len
          have hL2 := f2.len
          have H1 := Lib.hid (fun w' (h : Mem [] w [⟨gx, 52, 4, opCs ⟨kk, sd, tx, nn⟩⟩] [lineT fz' g2 Z', lineT fs' g1 S'] w') => up_any (HasLine.of h.swap2))
          have H2 := Lib.hid (fun w' (h : Mem [] w [⟨gx, 52, 4, opCs ⟨kk, sd, tx, nn⟩⟩] [lineT fz' g2 Z', lineT fs' g1 S'] w') => up_any (HasLine.of h))
          have H3 := Lib.hid (fun w' (h : Mem [] w [⟨gx, 52, 4, opCs ⟨kk, sd, tx, nn⟩⟩] [lineT fz' g2 Z', lineT fs' g1 S'] w') => wait_0 (HasLine.of h.swap2))
          have H4 := Lib.hid (fun w' (h : Mem [] w [⟨gx, 52, 4, opCs ⟨kk, sd, tx, nn⟩⟩] [lineT fz' g2 Z', lineT fs' g1 S'] w') => wait_0 (HasLine.of h))
          have H5 := Lib.hid (fun w' (h : Mem [] w [⟨gx, 52, 4, opCs ⟨kk, sd, tx, nn⟩⟩] [lineT fz' g2 Z', lineT fs' g1 S'] w') => under_0 (HasLine.of h.swap2) (by omega) f1.ok.w0)
          have H6 := Lib.hid (fun w' (h : Mem [] w [⟨gx, 52, 4, opCs ⟨kk, sd, tx, nn⟩⟩] [lineT fz' g2 Z', lineT fs' g1 S'] w') => under_0 (HasLine.of h) (by omega) f2.ok.w0)
          rw [hd.up] at H1
          rw [hd.w] at H3
          rw [hd.y] at H5
          clear f1 f2 hd hL1 hL2
          go_wp2_with (first | ((with_reducible refine (H1.out _ hM).mono ?_); rintro e w1 ⟨rfl, rfl⟩) | ((with_reducible refine (H2.out _ hM).mono ?_); rintro e w1 ⟨rfl, rfl⟩) | ((with_reducible refine (H3.out _ hM).mono ?_); rintro e w1 ⟨rfl, rfl⟩) | ((with_reducible refine (H4.out _ hM).mono ?_); rintro e w1 ⟨rfl, rfl⟩) | ((with_reducible refine (H5.out _ hM).mono ?_); rintro e w1 ⟨rfl, hb⟩; replace hM := hM.step hb; clear hb) | ((with_reducible refine (H6.out _ hM).mono ?_); rintro e w1 ⟨rfl, hb⟩; replace hM := hM.step hb; clear hb) | ((first | with_reducible refine at_load ?_ | ((with_reducible refine at_load_g ?_ ?_); (· rfl))); first | refine lc hM ?_ | refine ll hM ?_ | refine lp hM ?_) | ((with_reducible refine at_store ?_); first | (refine ls hM ?_; clear hM; intro wx hM) | (refine lw hM ?_; clear hM; intro wx hM) | (refine lt hM ?_; clear hM; intro wx hM)) | ((with_reducible refine at_alloc ?_); refine lz hM ?_; clear hM; intro gx wx hM) | ((with_reducible refine at_box ?_); refine lb hM ?_; clear hM; intro gx wx hM))
          exact ⟨⟨k + 1, S', Z', fs', fz', by omega, by omega, by go_num, by rw [show 200 * (k + 1) = 200 * k + 200 by omega]; exact HS', hM.subL (List.nil_sublist _)⟩, by simp [intOf]; omega⟩
      · have HB2 : k = m ∨ (k < m ∧ k = 30) := by omega
        rcases HB2 with h | ⟨h, h2⟩
        · subst h
          clear hlt
          go_wp2_with (first | ((first | with_reducible refine at_load ?_ | ((with_reducible refine at_load_g ?_ ?_); (· rfl))); first | refine lc hM ?_ | refine ll hM ?_ | refine lp hM ?_) | ((with_reducible refine at_store ?_); first | (refine ls hM ?_; clear hM; intro wx hM) | (refine lw hM ?_; clear hM; intro wx hM) | (refine lt hM ?_; clear hM; intro wx hM)) | ((with_reducible refine at_alloc ?_); refine lz hM ?_; clear hM; intro gx wx hM) | ((with_reducible refine at_box ?_); refine lb hM ?_; clear hM; intro gx wx hM))
          go_ret
          exact ⟨rfl, Mem.below hM⟩
        · subst h2
          have hk1 : ((30 : Nat) : Int) < (m : Int) := by omega
          clear hlt
          go_wp2_with (first | ((first | with_reducible refine at_load ?_ | ((with_reducible refine at_load_g ?_ ?_); (· rfl))); first | refine lc hM ?_ | refine ll hM ?_ | refine lp hM ?_) | ((with_reducible refine at_store ?_); first | (refine ls hM ?_; clear hM; intro wx hM) | (refine lw hM ?_; clear hM; intro wx hM) | (refine lt hM ?_; clear hM; intro wx hM)) | ((with_reducible refine at_alloc ?_); refine lz hM ?_; clear hM; intro gx wx hM) | ((with_reducible refine at_box ?_); refine lb hM ?_; clear hM; intro gx wx hM))
          go_ret
          exact ⟨rfl, Mem.below hM⟩
  · obtain ⟨z, hzz⟩ : ∃ z, chk r d p us = z := ⟨_, rfl⟩
    have c1 : (z != 0) = true := by rw [← hzz]; simpa using hz
    have HN := Lib.hid (fun (A : Option Addr) (c : Nat) w hW => new_no (w := w) r d p A us.length c us hW (by omega) hz)
    rw [hzz] at HN
    clear hz hzz hul
    go_enter Try.func10, Try.ntmps10
    go_wp2_with (first | ((with_reducible refine (known_any _).mono ?_); rintro e w1 ⟨rfl, hb⟩; replace hM := hM.step hb; clear hb) | ((with_reducible refine (HC.out _ hM.below).mono ?_); rintro e w1 ⟨A1, c1', rfl, hb⟩; replace hM := hM.newThing hb; clear hb) | ((with_reducible refine (config_in (wT_in hM (List.Mem.head _)) HU.out).mono ?_); rintro e w1 ⟨A2, c2, rfl, hb⟩; replace hM := hM.newThing hb; clear hb) | ((with_reducible refine (HN.out _ _ _ (winT_in hM (List.Mem.head _))).mono ?_); rintro e w1 ⟨rfl, hb⟩; replace hM := hM.step hb; clear hb) | ((first | with_reducible refine at_load ?_ | ((with_reducible refine at_load_g ?_ ?_); (· rfl))); first | refine lc hM ?_ | refine ll hM ?_ | refine lp hM ?_) | ((with_reducible refine at_store ?_); first | (refine ls hM ?_; clear hM; intro wx hM) | (refine lw hM ?_; clear hM; intro wx hM) | (refine lt hM ?_; clear hM; intro wx hM)) | ((with_reducible refine at_alloc ?_); refine lz hM ?_; clear hM; intro gx wx hM) | ((with_reducible refine at_box ?_); refine lb hM ?_; clear hM; intro gx wx hM))
    go_ret
    exact ⟨rfl, hM.below⟩
end Go.Proofs.Ytenflgbaibjeoaa
