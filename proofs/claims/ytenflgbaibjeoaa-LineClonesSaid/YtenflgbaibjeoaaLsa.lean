/- LineDrops: the walk. -/
import Derived.Test.YtenflgbaibjeoaaLqz
import Derived.Test.YtenflgbaibjeoaaRgm
namespace Go.Thg
theorem wp_region_allTM {P : Go.Program} {w w0 : Go.World} {G : List Nat} {L : List Ent} {R : List Thing} {Q : Go.Exit → Go.Act → Go.World → Prop} (hM : Mem G w0 L R w) {id : Nat} {a : Go.Act} {l : List Go.Oper} (k : Nat) (S : Go.World → Prop) (hm : P.follows .mixedOrders = true)
    (h : ∀ wd, Mem G w0 L R wd → Go.Bul.wpAllT P l.toArray Q S k (Array.replicate l.toArray.size false) a wd) : (Go.Code.region id l.toArray true).wp P Q a w :=
  Go.Bul.wp_region_allT S k hm (h _ hM.drew)
end Go.Thg
namespace Go.Proofs.Ytenflgbaibjeoaa
open Go Go.RowKit Go.Bul Go.Thg Go.Lin
section
variable {G : List Nat} {w0 w : World} {L : List Ent} {R : List Thing} {p : Nat} {S : Ln}
theorem dwait_0 (h : HasLine G w0 L R p S w) (e0 : S.e0.wait = []) : Calls Try.prog 36 #[.pointer (some ⟨p, 0, none⟩), .int .i64 0] w fun e w' => e = .returned (.int .i64 0) ∧ w = w' := by
  have := swait_0 h
  rw [e0] at this
  exact this
theorem dwait_1 (h : HasLine G w0 L R p S w) (e0 : S.e1.wait = []) : Calls Try.prog 36 #[.pointer (some ⟨p, 0, none⟩), .int .i64 1] w fun e w' => e = .returned (.int .i64 0) ∧ w = w' := by
  have := swait_1 h
  rw [e0] at this
  exact this
theorem dunder_0 (h : HasLine G w0 L R p S w) (e0 : S.e0.way = []) : Calls Try.prog 37 #[.pointer (some ⟨p, 0, none⟩), .int .i64 0] w fun e w' => e = .returned (.int .i64 0) ∧ Below w.heap.size w w' := by
  have := under_0 h (by rw [e0]; decide) (by rw [e0]; intro x hx; cases hx)
  rw [e0] at this
  exact this
theorem dunder_1 (h : HasLine G w0 L R p S w) (e0 : S.e1.way = []) : Calls Try.prog 37 #[.pointer (some ⟨p, 0, none⟩), .int .i64 1] w fun e w' => e = .returned (.int .i64 0) ∧ Below w.heap.size w w' := by
  have := under_1 h (by rw [e0]; decide) (by rw [e0]; intro x hx; cases hx)
  rw [e0] at this
  exact this
end
attribute [local irreducible] HasLine newS chk connected
set_option maxRecDepth 20000 in
set_option maxHeartbeats 40000000 in
theorem drops_any (r d p : Int) (A : Option Addr) (n c : Nat) (ws : List Win) (B : Option Addr) (m c3 : Nat) (os : List OpR) (B2 : Option Addr) (m2 c4 : Nat) (os2 : List OpR) (w : World) (hI : WinsIn w A n c ws) (hO : OpsIn w B m os) (hO2 : OpsIn w B2 m2 os2) :
    Calls Try.prog 9 #[cfgV r d p A n c, .slice B m c3, .slice B2 m2 c4] w fun e w' => e = .returned (.bool true) ∧ Below w.heap.size w w' := by
  have hM := Mem.start [] w
  have HC := Lib.hid (fun w' hb => cut_in (r := r) (d := d) (p := p) (hI.keep (w' := w') hb))
  obtain ⟨us, hus⟩ : ∃ us, ws.take 40 = us := ⟨_, rfl⟩
  have hul : us.length ≤ 40 := by rw [← hus, List.length_take]; omega
  rw [hus] at HC
  have HU := Lib.hid hul
  clear hus hI
  have HO := Lib.hid hO
  have HO2 := Lib.hid hO2
  clear hO hO2
  by_cases hz : chk r d p us = 0
  · have HN := Lib.hid (fun (A : Option Addr) (c : Nat) w hW => new_any (w := w) r d p A us.length c us hW (by omega) hz)
    have HRN := Lib.hid (fun (A : Option Addr) (c : Nat) w hW => rnew_any r d p A c us w (by omega) hW)
    have HK := Lib.hid (tie_new hz)
    have HF := Lib.hid (newR_parts r d p us)
    generalize newS r d p us = S0 at HN HK
    generalize newR r d p us = T0 at HRN HK HF
    clear hz hul
    go_enter Try.func9, Try.ntmps9
    go_wp2_with (first | ((with_reducible refine (known_any _).mono ?_); rintro e w1 ⟨rfl, hb⟩; replace hM := hM.step hb; clear hb) | ((with_reducible refine (HC.out _ hM.below).mono ?_); rintro e w1 ⟨A1, c1', rfl, hb⟩; replace hM := hM.newThing hb; clear hb) | ((with_reducible refine (config_in (wT_in hM (List.Mem.head _)) HU.out).mono ?_); rintro e w1 ⟨A2, c2, rfl, hb⟩; replace hM := hM.newThing hb; clear hb) | ((with_reducible refine (HN.out _ _ _ (winT_in hM (List.Mem.head _))).mono ?_); rintro e w1 ⟨g, rfl, hH⟩; obtain ⟨fp, hM2⟩ := (HasLine.frame hM hH).ex; clear hM hH; have hM := hM2; clear hM2) | ((with_reducible refine (HRN.out _ _ _ (wT_in hM (List.Mem.tail _ (List.Mem.tail _ (List.Mem.head _))))).mono ?_); rintro e w1 ⟨rfl, hb⟩; replace hM := hM.step hb; clear hb) | ((first | with_reducible refine at_load ?_ | ((with_reducible refine at_load_g ?_ ?_); (· rfl))); first | refine lc hM ?_ | refine ll hM ?_ | refine lp hM ?_) | ((with_reducible refine at_store ?_); first | (refine ls hM ?_; clear hM; intro wx hM) | (refine lw hM ?_; clear hM; intro wx hM) | (refine lt hM ?_; clear hM; intro wx hM)) | ((with_reducible refine at_alloc ?_); refine lz hM ?_; clear hM; intro gx wx hM) | ((with_reducible refine at_box ?_); refine lb hM ?_; clear hM; intro gx wx hM))
    obtain ⟨g9, hg9⟩ := hM.name1
    subst hg9
    have hM2 := turn_new (c2 := c1') (B := none) (C := none) (c0 := 0) (c1 := 0) ((hM.subL (L' := [_]) (List.Sublist.cons_cons _ (List.nil_sublist _))).subR (R' := [_, _]) (List.Sublist.cons_cons _ (List.Sublist.cons _ (List.Sublist.cons_cons _ (List.nil_sublist _))))) (UpdR.tail _ (UpdR.head _ _)) HF.out.1 HF.out.2.1 HF.out.2.2
    have M0 := Lib.hid hM2
    clear hM hM2 HC HN HRN
    go_loopw [10] (fun i wr => ∃ (k : Nat) (S : Ln) (T : RL) (v : RV) (fp : List Nat), k ≤ m ∧ k ≤ 15 ∧ i = .int .i64 (k : Nat) ∧ Hid (Tie (200 * k) S T) ∧ Mem [] w [⟨g9, 66, 13, refCs T v⟩] [lineT fp g S, refT T v] wr) (fun i _ => 15 - (intOf i).toNat)
    case atStart => exact ⟨0, S0, T0, _, _, by omega, by omega, rfl, HK, M0.out⟩
    case round =>
      obtain ⟨k, S, T, v, fp, hk, hk30, rfl, HS, hM⟩ := hrel
      clear M0
      by_cases hlt : k < m ∧ k < 15
      · obtain ⟨hkm, hk3⟩ := hlt
        have hkl : k < os.length := by have := HO.out.len; omega
        obtain ⟨gb, ob, rfl, hgl, _⟩ := HO.out.at_ (by omega)
        have HX := Lib.hid (fun w' (hb : Below w.heap.size w w') => (HO.out.keep hb).cell k hkl)
        have hok := HO.out.ok _ (List.getElem_mem hkl)
        obtain ⟨o, ho⟩ : ∃ o, o = os[k] := ⟨_, rfl⟩
        rw [← ho] at HX hok
        clear ho
        have hk0 : (0 : Int) ≤ (k : Int) := Int.natCast_nonneg _
        have hk1 : (k : Int) < (m : Int) := by omega
        have hk2 : (k : Int) < 15 := by omega
        have HD := Lib.hid (fun (L : List Ent) (fp : List Nat) w' (h : Mem [] w L [lineT fp g S, refT T v] w') => do_any o hok h HS.out (by omega))
        clear hok
        go_upto_region 9 with (first | ((first | with_reducible refine at_load ?_ | ((with_reducible refine at_load_g ?_ ?_); (· rfl))); first | refine lc hM ?_ | refine ll hM ?_ | refine lp hM ?_) | ((with_reducible refine at_store ?_); first | (refine ls hM ?_; clear hM; intro wx hM) | (refine lw hM ?_; clear hM; intro wx hM) | (refine lt hM ?_; clear hM; intro wx hM)) | ((with_reducible refine at_alloc ?_); refine lz hM ?_; clear hM; intro gx wx hM) | ((with_reducible refine at_box ?_); refine lb hM ?_; clear hM; intro gx wx hM))
        refine wp_region_allTM hM 10 (fun w' => ∃ L' R', Mem [] w (⟨g9, 66, 13, refCs T v⟩ :: L') R' w') (by kernel_rfl) ?_
        clear hM
        intro wd hM
        have hS : ∃ L' R', Mem [] w (⟨g9, 66, 13, refCs T v⟩ :: L') R' wd := ⟨_, _, hM⟩
        refine wpAllT_takes [0, 2, 3, 4, 1, 5] (by kernel_rfl) (fun _ _ _ _ _ h => h) hS (by kernel_rfl) ?_
        simp only [pickOps, List.filterMap_cons, List.filterMap_nil, List.getElem?_cons_zero, List.getElem?_cons_succ]
        repeat ((with_reducible apply wpHeld_step); (· rfl); (· (intro wq hSw; first | (go_simp; rfl) | ((obtain ⟨_, _, hM'⟩ := hSw; first | exact yields_load (C := fun _ => True) (ql hM') rfl | exact held_row (HX.out _ hM'.below))))); intro K hK; go_simp; (with_reducible refine hK _ ?_); clear hK K)
        refine wpHeld_nil ?_
        refine wpAllT_one 6 rfl (by kernel_rfl) ?_
        go_wp2_with fail
        refine (HD.out _ _ _ hM).mono ?_
        clear hM hS
        rintro e w1 ⟨S', T', fp', v', rfl, HT', hM⟩
        go_wp2_with fail
        have hS : ∃ L' R', Mem [] w (⟨g9, 66, 13, refCs T v⟩ :: L') R' w1 := ⟨_, _, hM⟩
        refine then_normal ⟨.inr hS, ?_⟩
        refine wpAllT_takes [7, 8] (by kernel_rfl) (fun _ _ _ _ _ h => h) hS (by kernel_rfl) ?_
        simp only [pickOps, List.filterMap_cons, List.filterMap_nil, List.getElem?_cons_zero, List.getElem?_cons_succ]
        repeat ((with_reducible apply wpHeld_step); (· rfl); (· (intro wq hSw; first | (go_simp; rfl) | (fail))); intro K hK; go_simp; (with_reducible refine hK _ ?_); clear hK K)
        refine wpHeld_nil ?_
        refine wpAllT_two 9 10 rfl rfl (by kernel_rfl) ?_ ?_
        · (with_reducible apply wpList_pure)
          · rfl
          · (go_simp; rfl)
          go_simp
          refine wpList_then ⟨.inr hS, ?_⟩
          refine wpAllT_one 10 rfl (by kernel_rfl) ?_
          refine lw hM ?_
          clear hM hS
          intro wy hM
          refine wpList_then ⟨.inl (by kernel_rfl), wpAllT_drop (by kernel_rfl) (wpAll_done (by kernel_rfl) ?_)⟩
          have HT2 := Lib.hid HT'
          clear HT'
          go_wp2_with (first | ((first | with_reducible refine at_load ?_ | ((with_reducible refine at_load_g ?_ ?_); (· rfl))); first | refine lc hM ?_ | refine ll hM ?_ | refine lp hM ?_) | ((with_reducible refine at_store ?_); first | (refine ls hM ?_; clear hM; intro wx hM) | (refine lw hM ?_; clear hM; intro wx hM) | (refine lt hM ?_; clear hM; intro wx hM)) | ((with_reducible refine at_alloc ?_); refine lz hM ?_; clear hM; intro gx wx hM) | ((with_reducible refine at_box ?_); refine lb hM ?_; clear hM; intro gx wx hM))
          exact ⟨⟨k + 1, S', T', v', fp', by omega, by omega, by go_num, by rw [show 200 * (k + 1) = 200 * k + 200 by omega]; exact HT2, hM⟩, by simp [intOf]; omega⟩
        · refine lw hM ?_
          clear hM hS
          intro wy hM
          refine wpList_then ⟨.inl (by kernel_rfl), wpAllT_drop (by kernel_rfl) ?_⟩
          refine wpAll_one 9 rfl (by kernel_rfl) ?_
          (with_reducible apply wpList_pure)
          · rfl
          · (go_simp; rfl)
          go_simp
          refine wpList_then (wpAll_done (by kernel_rfl) ?_)
          have HT2 := Lib.hid HT'
          clear HT'
          go_wp2_with (first | ((first | with_reducible refine at_load ?_ | ((with_reducible refine at_load_g ?_ ?_); (· rfl))); first | refine lc hM ?_ | refine ll hM ?_ | refine lp hM ?_) | ((with_reducible refine at_store ?_); first | (refine ls hM ?_; clear hM; intro wx hM) | (refine lw hM ?_; clear hM; intro wx hM) | (refine lt hM ?_; clear hM; intro wx hM)) | ((with_reducible refine at_alloc ?_); refine lz hM ?_; clear hM; intro gx wx hM) | ((with_reducible refine at_box ?_); refine lb hM ?_; clear hM; intro gx wx hM))
          exact ⟨⟨k + 1, S', T', v', fp', by omega, by omega, by go_num, by rw [show 200 * (k + 1) = 200 * k + 200 by omega]; exact HT2, hM⟩, by simp [intOf]; omega⟩
      · have hT0 := HS.out.mono (C := 3000) (by omega)
        clear HS
        have HB2 : k = m ∨ (k < m ∧ k = 15) := by omega
        rcases HB2 with h | ⟨h, h2⟩
        · subst h
          clear hlt
          cases hup : S.up with
          | true =>
            have HU := Lib.hid (fun (L : List Ent) (fp : List Nat) w' (h : Mem [] w L [lineT fp g S, refT T v] w') => up_any (HasLine.of h))
            have HD := Lib.hid (fun (L : List Ent) (fp : List Nat) w' (h : Mem [] w L [lineT fp g S, refT T v] w') => ldrop_in h hT0.rel)
            have HR := Lib.hid (fun (S' : Ln) (L : List Ent) (fp : List Nat) w' (h : Mem [] w L [lineT fp g S', refT T v] w') => rdrop_in h (UpdR.tail _ (UpdR.head _ _)))
            have htu : T.up = true := by rw [hT0.rel.up, hup]
            rw [hup] at HU
            rw [htu, hup, if_pos rfl, if_pos rfl] at HD
            rw [htu, if_pos rfl, if_pos rfl] at HR
            have hT1 := tie_down hT0
            have HUP := Lib.hid (fun (L : List Ent) (fp : List Nat) w' (h : Mem [] w L [lineT fp g (downS S), refT T v] w') => up_any (HasLine.of h))
            have HW0 := Lib.hid (fun (L : List Ent) (fp : List Nat) w' (h : Mem [] w L [lineT fp g (downS S), refT T v] w') => dwait_0 (HasLine.of h) rfl)
            have HW1 := Lib.hid (fun (L : List Ent) (fp : List Nat) w' (h : Mem [] w L [lineT fp g (downS S), refT T v] w') => dwait_1 (HasLine.of h) rfl)
            have HY0 := Lib.hid (fun (L : List Ent) (fp : List Nat) w' (h : Mem [] w L [lineT fp g (downS S), refT T v] w') => dunder_0 (HasLine.of h) rfl)
            have HY1 := Lib.hid (fun (L : List Ent) (fp : List Nat) w' (h : Mem [] w L [lineT fp g (downS S), refT T v] w') => dunder_1 (HasLine.of h) rfl)
            have hd : (downS S).up = false := rfl
            rw [hd] at HUP
            generalize downS S = S' at HD HUP HW0 HW1 HY0 HY1 hT1
            generalize downR T = T' at HR hT1
            clear hT0 hup htu hd
            have HT1 := Lib.hid hT1
            clear hT1
            go_upto_region 16 with (first | ((with_reducible refine (HU.out _ _ _ hM).mono ?_); rintro e w1 ⟨rfl, rfl⟩; clear HU) | ((with_reducible refine (HD.out _ _ _ hM).mono ?_); clear hM HD; rintro e w1 ⟨fp2, rfl, hM⟩) | ((with_reducible refine (HUP.out _ _ _ hM).mono ?_); rintro e w1 ⟨rfl, rfl⟩) | ((with_reducible refine (HW0.out _ _ _ hM).mono ?_); rintro e w1 ⟨rfl, rfl⟩) | ((with_reducible refine (HW1.out _ _ _ hM).mono ?_); rintro e w1 ⟨rfl, rfl⟩) | ((with_reducible refine (HY0.out _ _ _ hM).mono ?_); rintro e w1 ⟨rfl, hb⟩; replace hM := hM.step hb; clear hb) | ((with_reducible refine (HY1.out _ _ _ hM).mono ?_); rintro e w1 ⟨rfl, hb⟩; replace hM := hM.step hb; clear hb) | ((with_reducible refine (HR.out _ _ _ _ hM).mono ?_); clear hM; rintro e w1 ⟨v2, rfl, hM⟩) | ((first | with_reducible refine at_load ?_ | ((with_reducible refine at_load_g ?_ ?_); (· rfl))); first | refine lc hM ?_ | refine ll hM ?_ | refine lp hM ?_) | ((with_reducible refine at_store ?_); first | (refine ls hM ?_; clear hM; intro wx hM) | (refine lw hM ?_; clear hM; intro wx hM) | (refine lt hM ?_; clear hM; intro wx hM)) | ((with_reducible refine at_alloc ?_); refine lz hM ?_; clear hM; intro gx wx hM) | ((with_reducible refine at_box ?_); refine lb hM ?_; clear hM; intro gx wx hM))
            clear HUP HW0 HW1 HY0 HY1 HR
            have M0 := Lib.hid hM
            clear hM
            go_wp2_with (first | ((first | with_reducible refine at_load ?_ | ((with_reducible refine at_load_g ?_ ?_); (· rfl))); first | refine lc hM ?_ | refine ll hM ?_ | refine lp hM ?_) | ((with_reducible refine at_store ?_); first | (refine ls hM ?_; clear hM; intro wx hM) | (refine lw hM ?_; clear hM; intro wx hM) | (refine lt hM ?_; clear hM; intro wx hM)) | ((with_reducible refine at_alloc ?_); refine lz hM ?_; clear hM; intro gx wx hM) | ((with_reducible refine at_box ?_); refine lb hM ?_; clear hM; intro gx wx hM))
            go_loopw [13] (fun i wr => ∃ (k : Nat) (S : Ln) (T : RL) (v : RV) (fp : List Nat), k ≤ m2 ∧ k ≤ 15 ∧ i = .int .i64 (k : Nat) ∧ Hid (Tie (3000 + 200 * k) S T) ∧ Mem [] w [⟨g9, 66, 13, refCs T v⟩] [lineT fp g S, refT T v] wr) (fun i _ => 15 - (intOf i).toNat)
            case atStart => exact ⟨0, S', T', _, _, by omega, by omega, rfl, HT1, M0.out⟩
            case round =>
              clear M0 HT1
              obtain ⟨k, S, T, v, fp, hk, hk30, rfl, HS, hM⟩ := hrel
              by_cases hlt : k < m2 ∧ k < 15
              · obtain ⟨hkm, hk3⟩ := hlt
                have hkl : k < os2.length := by have := HO2.out.len; omega
                obtain ⟨gb, ob, rfl, hgl, _⟩ := HO2.out.at_ (by omega)
                have HX := Lib.hid (fun w' (hb : Below w.heap.size w w') => (HO2.out.keep hb).cell k hkl)
                have hok := HO2.out.ok _ (List.getElem_mem hkl)
                obtain ⟨o, ho⟩ : ∃ o, o = os2[k] := ⟨_, rfl⟩
                rw [← ho] at HX hok
                clear ho
                have hk0 : (0 : Int) ≤ (k : Int) := Int.natCast_nonneg _
                have hk1 : (k : Int) < (m2 : Int) := by omega
                have hk2 : (k : Int) < 15 := by omega
                have HD := Lib.hid (fun (L : List Ent) (fp : List Nat) w' (h : Mem [] w L [lineT fp g S, refT T v] w') => do_any o hok h HS.out (by omega))
                clear hok
                go_upto_region 19 with (first | ((first | with_reducible refine at_load ?_ | ((with_reducible refine at_load_g ?_ ?_); (· rfl))); first | refine lc hM ?_ | refine ll hM ?_ | refine lp hM ?_) | ((with_reducible refine at_store ?_); first | (refine ls hM ?_; clear hM; intro wx hM) | (refine lw hM ?_; clear hM; intro wx hM) | (refine lt hM ?_; clear hM; intro wx hM)) | ((with_reducible refine at_alloc ?_); refine lz hM ?_; clear hM; intro gx wx hM) | ((with_reducible refine at_box ?_); refine lb hM ?_; clear hM; intro gx wx hM))
                refine wp_region_allHM hM (fun w' => ∃ L' R', Mem [] w (⟨g9, 66, 13, refCs T v⟩ :: L') R' w') (by kernel_rfl) ?_
                clear hM
                intro wd hM
                have hS : ∃ L' R', Mem [] w (⟨g9, 66, 13, refCs T v⟩ :: L') R' wd := ⟨_, _, hM⟩
                refine wpAllH_takes [0, 2, 3, 4, 1, 5] (by kernel_rfl) (fun _ _ _ _ _ h => h) hS (by kernel_rfl) ?_
                simp only [pickOps, List.filterMap_cons, List.filterMap_nil, List.getElem?_cons_zero, List.getElem?_cons_succ]
                repeat ((with_reducible apply wpHeld_step); (· rfl); (· (intro w hSw; first | (go_simp; rfl) | ((obtain ⟨_, _, hM'⟩ := hSw; first | exact yields_load (C := fun _ => True) (ql hM') rfl | exact held_row (HX.out _ hM'.below))))); intro K hK; go_simp; (with_reducible refine hK _ ?_); clear hK K)
                refine wpHeld_nil ?_
                refine wpAllH_two 6 10 rfl rfl (by kernel_rfl) ?_ ?_
                · go_wp2_with fail
                  refine (HD.out _ _ _ hM).mono ?_
                  clear hM hS
                  rintro e w1 ⟨S', T', fp', v', rfl, HT', hM⟩
                  go_wp2_with fail
                  have hS : ∃ L' R', Mem [] w (⟨g9, 66, 13, refCs T v⟩ :: L') R' w1 := ⟨_, _, hM⟩
                  refine then_normal ⟨hS, ?_⟩
                  refine wpAllH_takes [7, 8, 9] (by kernel_rfl) (fun _ _ _ _ _ h => h) hS (by kernel_rfl) ?_
                  simp only [pickOps, List.filterMap_cons, List.filterMap_nil, List.getElem?_cons_zero, List.getElem?_cons_succ]
                  repeat ((with_reducible apply wpHeld_step); (· rfl); (· (intro w hSw; first | (go_simp; rfl) | (fail))); intro K hK; go_simp; (with_reducible refine hK _ ?_); clear hK K)
                  refine wpHeld_nil ?_
                  refine wpAllH_one 10 rfl (by kernel_rfl) ?_
                  refine lz hM ?_
                  clear hM hS
                  intro g14 wx hM
                  refine wpList_then ⟨⟨_, _, hM.subL (List.sublist_cons_self _ _)⟩, ?_⟩
                  refine wpAllH_one 11 rfl (by kernel_rfl) ?_
                  refine lw hM ?_
                  clear hM
                  intro wy hM
                  have hS : ∃ L' R', Mem [] w (⟨g9, 66, 13, refCs T v⟩ :: L') R' wy := ⟨_, _, hM.subL (List.sublist_cons_self _ _)⟩
                  refine wpList_then ⟨hS, ?_⟩
                  refine wpAllH_takes [12] (by kernel_rfl) (fun _ _ _ _ _ h => h) hS (by kernel_rfl) ?_
                  simp only [pickOps, List.filterMap_cons, List.filterMap_nil, List.getElem?_cons_zero, List.getElem?_cons_succ]
                  repeat ((with_reducible apply wpHeld_step); (· rfl); (· (intro w hSw; first | (go_simp; rfl) | (fail))); intro K hK; go_simp; (with_reducible refine hK _ ?_); clear hK K)
                  refine wpHeld_nil ?_
                  refine wpAllH_done (by kernel_rfl) ?_
                  have HT2 := Lib.hid HT'
                  clear HT'
                  go_wp2_with (first | ((first | with_reducible refine at_load ?_ | ((with_reducible refine at_load_g ?_ ?_); (· rfl))); first | refine lc hM ?_ | refine ll hM ?_ | refine lp hM ?_) | ((with_reducible refine at_store ?_); first | (refine ls hM ?_; clear hM; intro wx hM) | (refine lw hM ?_; clear hM; intro wx hM) | (refine lt hM ?_; clear hM; intro wx hM)) | ((with_reducible refine at_alloc ?_); refine lz hM ?_; clear hM; intro gx wx hM) | ((with_reducible refine at_box ?_); refine lb hM ?_; clear hM; intro gx wx hM))
                  exact ⟨⟨k + 1, S', T', v', fp', by omega, by omega, by go_num, by rw [show 3000 + 200 * (k + 1) = 3000 + 200 * k + 200 by omega]; exact HT2, hM.subL (List.sublist_cons_self _ _)⟩, by simp [intOf]; omega⟩
                · refine lz hM ?_
                  clear hM hS
                  intro g14 wx hM
                  have hS : ∃ L' R', Mem [] w (⟨g9, 66, 13, refCs T v⟩ :: L') R' wx := ⟨_, _, hM.subL (List.sublist_cons_self _ _)⟩
                  refine wpList_then ⟨hS, ?_⟩
                  refine wpAllH_one 6 rfl (by kernel_rfl) ?_
                  go_wp2_with fail
                  refine (HD.out _ _ _ hM).mono ?_
                  clear hM hS
                  rintro e w1 ⟨S', T', fp', v', rfl, HT', hM⟩
                  go_wp2_with fail
                  have hS : ∃ L' R', Mem [] w (⟨g9, 66, 13, refCs T v⟩ :: L') R' w1 := ⟨_, _, hM.subL (List.sublist_cons_self _ _)⟩
                  refine then_normal ⟨hS, ?_⟩
                  refine wpAllH_takes [7, 8, 9] (by kernel_rfl) (fun _ _ _ _ _ h => h) hS (by kernel_rfl) ?_
                  simp only [pickOps, List.filterMap_cons, List.filterMap_nil, List.getElem?_cons_zero, List.getElem?_cons_succ]
                  repeat ((with_reducible apply wpHeld_step); (· rfl); (· (intro w hSw; first | (go_simp; rfl) | (fail))); intro K hK; go_simp; (with_reducible refine hK _ ?_); clear hK K)
                  refine wpHeld_nil ?_
                  refine wpAllH_one 11 rfl (by kernel_rfl) ?_
                  refine lw hM ?_
                  clear hM hS
                  intro wy hM
                  have hS : ∃ L' R', Mem [] w (⟨g9, 66, 13, refCs T v⟩ :: L') R' wy := ⟨_, _, hM.subL (List.sublist_cons_self _ _)⟩
                  refine wpList_then ⟨hS, ?_⟩
                  refine wpAllH_takes [12] (by kernel_rfl) (fun _ _ _ _ _ h => h) hS (by kernel_rfl) ?_
                  simp only [pickOps, List.filterMap_cons, List.filterMap_nil, List.getElem?_cons_zero, List.getElem?_cons_succ]
                  repeat ((with_reducible apply wpHeld_step); (· rfl); (· (intro w hSw; first | (go_simp; rfl) | (fail))); intro K hK; go_simp; (with_reducible refine hK _ ?_); clear hK K)
                  refine wpHeld_nil ?_
                  refine wpAllH_done (by kernel_rfl) ?_
                  have HT2 := Lib.hid HT'
                  clear HT'
                  go_wp2_with (first | ((first | with_reducible refine at_load ?_ | ((with_reducible refine at_load_g ?_ ?_); (· rfl))); first | refine lc hM ?_ | refine ll hM ?_ | refine lp hM ?_) | ((with_reducible refine at_store ?_); first | (refine ls hM ?_; clear hM; intro wx hM) | (refine lw hM ?_; clear hM; intro wx hM) | (refine lt hM ?_; clear hM; intro wx hM)) | ((with_reducible refine at_alloc ?_); refine lz hM ?_; clear hM; intro gx wx hM) | ((with_reducible refine at_box ?_); refine lb hM ?_; clear hM; intro gx wx hM))
                  exact ⟨⟨k + 1, S', T', v', fp', by omega, by omega, by go_num, by rw [show 3000 + 200 * (k + 1) = 3000 + 200 * k + 200 by omega]; exact HT2, hM.subL (List.sublist_cons_self _ _)⟩, by simp [intOf]; omega⟩
              · have HB2 : k = m2 ∨ (k < m2 ∧ k = 15) := by omega
                rcases HB2 with h | ⟨h, h2⟩
                · subst h
                  clear hlt
                  go_wp2_with (first | ((first | with_reducible refine at_load ?_ | ((with_reducible refine at_load_g ?_ ?_); (· rfl))); first | refine lc hM ?_ | refine ll hM ?_ | refine lp hM ?_) | ((with_reducible refine at_store ?_); first | (refine ls hM ?_; clear hM; intro wx hM) | (refine lw hM ?_; clear hM; intro wx hM) | (refine lt hM ?_; clear hM; intro wx hM)) | ((with_reducible refine at_alloc ?_); refine lz hM ?_; clear hM; intro gx wx hM) | ((with_reducible refine at_box ?_); refine lb hM ?_; clear hM; intro gx wx hM))
                  go_ret
                  exact ⟨rfl, Mem.below hM⟩
                · subst h2
                  have hk1 : ((15 : Nat) : Int) < (m2 : Int) := by omega
                  clear hlt
                  go_wp2_with (first | ((first | with_reducible refine at_load ?_ | ((with_reducible refine at_load_g ?_ ?_); (· rfl))); first | refine lc hM ?_ | refine ll hM ?_ | refine lp hM ?_) | ((with_reducible refine at_store ?_); first | (refine ls hM ?_; clear hM; intro wx hM) | (refine lw hM ?_; clear hM; intro wx hM) | (refine lt hM ?_; clear hM; intro wx hM)) | ((with_reducible refine at_alloc ?_); refine lz hM ?_; clear hM; intro gx wx hM) | ((with_reducible refine at_box ?_); refine lb hM ?_; clear hM; intro gx wx hM))
                  go_ret
                  exact ⟨rfl, Mem.below hM⟩
          | false =>
            have hdn := hT0.fit.dn hup
            have HU := Lib.hid (fun (L : List Ent) (fp : List Nat) w' (h : Mem [] w L [lineT fp g S, refT T v] w') => up_any (HasLine.of h))
            have HD := Lib.hid (fun (L : List Ent) (fp : List Nat) w' (h : Mem [] w L [lineT fp g S, refT T v] w') => ldrop_in h hT0.rel)
            have htu : T.up = false := by rw [hT0.rel.up, hup]
            rw [hup] at HU
            rw [htu, hup, if_neg (by decide), if_neg (by decide)] at HD
            have HW0 := Lib.hid (fun (L : List Ent) (fp : List Nat) w' (h : Mem [] w L [lineT fp g S, refT T v] w') => dwait_0 (HasLine.of h) hdn.1.1)
            have HW1 := Lib.hid (fun (L : List Ent) (fp : List Nat) w' (h : Mem [] w L [lineT fp g S, refT T v] w') => dwait_1 (HasLine.of h) hdn.2.1)
            have HY0 := Lib.hid (fun (L : List Ent) (fp : List Nat) w' (h : Mem [] w L [lineT fp g S, refT T v] w') => dunder_0 (HasLine.of h) hdn.1.2)
            have HY1 := Lib.hid (fun (L : List Ent) (fp : List Nat) w' (h : Mem [] w L [lineT fp g S, refT T v] w') => dunder_1 (HasLine.of h) hdn.2.2)
            have HT1 := Lib.hid hT0
            clear hT0 hup htu hdn
            obtain ⟨S', rfl⟩ : ∃ x, x = S := ⟨_, rfl⟩
            obtain ⟨T', rfl⟩ : ∃ x, x = T := ⟨_, rfl⟩
            obtain ⟨v2, rfl⟩ : ∃ x, x = v := ⟨_, rfl⟩
            go_upto_region 16 with (first | ((with_reducible refine (HU.out _ _ _ hM).mono ?_); rintro e w1 ⟨rfl, rfl⟩) | ((with_reducible refine (HD.out _ _ _ hM).mono ?_); clear hM HD; rintro e w1 ⟨fp2, rfl, hM⟩) | ((with_reducible refine (HW0.out _ _ _ hM).mono ?_); rintro e w1 ⟨rfl, rfl⟩) | ((with_reducible refine (HW1.out _ _ _ hM).mono ?_); rintro e w1 ⟨rfl, rfl⟩) | ((with_reducible refine (HY0.out _ _ _ hM).mono ?_); rintro e w1 ⟨rfl, hb⟩; replace hM := hM.step hb; clear hb) | ((with_reducible refine (HY1.out _ _ _ hM).mono ?_); rintro e w1 ⟨rfl, hb⟩; replace hM := hM.step hb; clear hb) | ((first | with_reducible refine at_load ?_ | ((with_reducible refine at_load_g ?_ ?_); (· rfl))); first | refine lc hM ?_ | refine ll hM ?_ | refine lp hM ?_) | ((with_reducible refine at_store ?_); first | (refine ls hM ?_; clear hM; intro wx hM) | (refine lw hM ?_; clear hM; intro wx hM) | (refine lt hM ?_; clear hM; intro wx hM)) | ((with_reducible refine at_alloc ?_); refine lz hM ?_; clear hM; intro gx wx hM) | ((with_reducible refine at_box ?_); refine lb hM ?_; clear hM; intro gx wx hM))
            clear HU HW0 HW1 HY0 HY1
            have M0 := Lib.hid hM
            clear hM
            go_wp2_with (first | ((first | with_reducible refine at_load ?_ | ((with_reducible refine at_load_g ?_ ?_); (· rfl))); first | refine lc hM ?_ | refine ll hM ?_ | refine lp hM ?_) | ((with_reducible refine at_store ?_); first | (refine ls hM ?_; clear hM; intro wx hM) | (refine lw hM ?_; clear hM; intro wx hM) | (refine lt hM ?_; clear hM; intro wx hM)) | ((with_reducible refine at_alloc ?_); refine lz hM ?_; clear hM; intro gx wx hM) | ((with_reducible refine at_box ?_); refine lb hM ?_; clear hM; intro gx wx hM))
            go_loopw [13] (fun i wr => ∃ (k : Nat) (S : Ln) (T : RL) (v : RV) (fp : List Nat), k ≤ m2 ∧ k ≤ 15 ∧ i = .int .i64 (k : Nat) ∧ Hid (Tie (3000 + 200 * k) S T) ∧ Mem [] w [⟨g9, 66, 13, refCs T v⟩] [lineT fp g S, refT T v] wr) (fun i _ => 15 - (intOf i).toNat)
            case atStart => exact ⟨0, S', T', _, _, by omega, by omega, rfl, HT1, M0.out⟩
            case round =>
              clear M0 HT1
              obtain ⟨k, S, T, v, fp, hk, hk30, rfl, HS, hM⟩ := hrel
              by_cases hlt : k < m2 ∧ k < 15
              · obtain ⟨hkm, hk3⟩ := hlt
                have hkl : k < os2.length := by have := HO2.out.len; omega
                obtain ⟨gb, ob, rfl, hgl, _⟩ := HO2.out.at_ (by omega)
                have HX := Lib.hid (fun w' (hb : Below w.heap.size w w') => (HO2.out.keep hb).cell k hkl)
                have hok := HO2.out.ok _ (List.getElem_mem hkl)
                obtain ⟨o, ho⟩ : ∃ o, o = os2[k] := ⟨_, rfl⟩
                rw [← ho] at HX hok
                clear ho
                have hk0 : (0 : Int) ≤ (k : Int) := Int.natCast_nonneg _
                have hk1 : (k : Int) < (m2 : Int) := by omega
                have hk2 : (k : Int) < 15 := by omega
                have HD := Lib.hid (fun (L : List Ent) (fp : List Nat) w' (h : Mem [] w L [lineT fp g S, refT T v] w') => do_any o hok h HS.out (by omega))
                clear hok
                go_upto_region 19 with (first | ((first | with_reducible refine at_load ?_ | ((with_reducible refine at_load_g ?_ ?_); (· rfl))); first | refine lc hM ?_ | refine ll hM ?_ | refine lp hM ?_) | ((with_reducible refine at_store ?_); first | (refine ls hM ?_; clear hM; intro wx hM) | (refine lw hM ?_; clear hM; intro wx hM) | (refine lt hM ?_; clear hM; intro wx hM)) | ((with_reducible refine at_alloc ?_); refine lz hM ?_; clear hM; intro gx wx hM) | ((with_reducible refine at_box ?_); refine lb hM ?_; clear hM; intro gx wx hM))
                refine wp_region_allHM hM (fun w' => ∃ L' R', Mem [] w (⟨g9, 66, 13, refCs T v⟩ :: L') R' w') (by kernel_rfl) ?_
                clear hM
                intro wd hM
                have hS : ∃ L' R', Mem [] w (⟨g9, 66, 13, refCs T v⟩ :: L') R' wd := ⟨_, _, hM⟩
                refine wpAllH_takes [0, 2, 3, 4, 1, 5] (by kernel_rfl) (fun _ _ _ _ _ h => h) hS (by kernel_rfl) ?_
                simp only [pickOps, List.filterMap_cons, List.filterMap_nil, List.getElem?_cons_zero, List.getElem?_cons_succ]
                repeat ((with_reducible apply wpHeld_step); (· rfl); (· (intro w hSw; first | (go_simp; rfl) | ((obtain ⟨_, _, hM'⟩ := hSw; first | exact yields_load (C := fun _ => True) (ql hM') rfl | exact held_row (HX.out _ hM'.below))))); intro K hK; go_simp; (with_reducible refine hK _ ?_); clear hK K)
                refine wpHeld_nil ?_
                refine wpAllH_two 6 10 rfl rfl (by kernel_rfl) ?_ ?_
                · go_wp2_with fail
                  refine (HD.out _ _ _ hM).mono ?_
                  clear hM hS
                  rintro e w1 ⟨S', T', fp', v', rfl, HT', hM⟩
                  go_wp2_with fail
                  have hS : ∃ L' R', Mem [] w (⟨g9, 66, 13, refCs T v⟩ :: L') R' w1 := ⟨_, _, hM⟩
                  refine then_normal ⟨hS, ?_⟩
                  refine wpAllH_takes [7, 8, 9] (by kernel_rfl) (fun _ _ _ _ _ h => h) hS (by kernel_rfl) ?_
                  simp only [pickOps, List.filterMap_cons, List.filterMap_nil, List.getElem?_cons_zero, List.getElem?_cons_succ]
                  repeat ((with_reducible apply wpHeld_step); (· rfl); (· (intro w hSw; first | (go_simp; rfl) | (fail))); intro K hK; go_simp; (with_reducible refine hK _ ?_); clear hK K)
                  refine wpHeld_nil ?_
                  refine wpAllH_one 10 rfl (by kernel_rfl) ?_
                  refine lz hM ?_
                  clear hM hS
                  intro g14 wx hM
                  refine wpList_then ⟨⟨_, _, hM.subL (List.sublist_cons_self _ _)⟩, ?_⟩
                  refine wpAllH_one 11 rfl (by kernel_rfl) ?_
                  refine lw hM ?_
                  clear hM
                  intro wy hM
                  have hS : ∃ L' R', Mem [] w (⟨g9, 66, 13, refCs T v⟩ :: L') R' wy := ⟨_, _, hM.subL (List.sublist_cons_self _ _)⟩
                  refine wpList_then ⟨hS, ?_⟩
                  refine wpAllH_takes [12] (by kernel_rfl) (fun _ _ _ _ _ h => h) hS (by kernel_rfl) ?_
                  simp only [pickOps, List.filterMap_cons, List.filterMap_nil, List.getElem?_cons_zero, List.getElem?_cons_succ]
                  repeat ((with_reducible apply wpHeld_step); (· rfl); (· (intro w hSw; first | (go_simp; rfl) | (fail))); intro K hK; go_simp; (with_reducible refine hK _ ?_); clear hK K)
                  refine wpHeld_nil ?_
                  refine wpAllH_done (by kernel_rfl) ?_
                  have HT2 := Lib.hid HT'
                  clear HT'
                  go_wp2_with (first | ((first | with_reducible refine at_load ?_ | ((with_reducible refine at_load_g ?_ ?_); (· rfl))); first | refine lc hM ?_ | refine ll hM ?_ | refine lp hM ?_) | ((with_reducible refine at_store ?_); first | (refine ls hM ?_; clear hM; intro wx hM) | (refine lw hM ?_; clear hM; intro wx hM) | (refine lt hM ?_; clear hM; intro wx hM)) | ((with_reducible refine at_alloc ?_); refine lz hM ?_; clear hM; intro gx wx hM) | ((with_reducible refine at_box ?_); refine lb hM ?_; clear hM; intro gx wx hM))
                  exact ⟨⟨k + 1, S', T', v', fp', by omega, by omega, by go_num, by rw [show 3000 + 200 * (k + 1) = 3000 + 200 * k + 200 by omega]; exact HT2, hM.subL (List.sublist_cons_self _ _)⟩, by simp [intOf]; omega⟩
                · refine lz hM ?_
                  clear hM hS
                  intro g14 wx hM
                  have hS : ∃ L' R', Mem [] w (⟨g9, 66, 13, refCs T v⟩ :: L') R' wx := ⟨_, _, hM.subL (List.sublist_cons_self _ _)⟩
                  refine wpList_then ⟨hS, ?_⟩
                  refine wpAllH_one 6 rfl (by kernel_rfl) ?_
                  go_wp2_with fail
                  refine (HD.out _ _ _ hM).mono ?_
                  clear hM hS
                  rintro e w1 ⟨S', T', fp', v', rfl, HT', hM⟩
                  go_wp2_with fail
                  have hS : ∃ L' R', Mem [] w (⟨g9, 66, 13, refCs T v⟩ :: L') R' w1 := ⟨_, _, hM.subL (List.sublist_cons_self _ _)⟩
                  refine then_normal ⟨hS, ?_⟩
                  refine wpAllH_takes [7, 8, 9] (by kernel_rfl) (fun _ _ _ _ _ h => h) hS (by kernel_rfl) ?_
                  simp only [pickOps, List.filterMap_cons, List.filterMap_nil, List.getElem?_cons_zero, List.getElem?_cons_succ]
                  repeat ((with_reducible apply wpHeld_step); (· rfl); (· (intro w hSw; first | (go_simp; rfl) | (fail))); intro K hK; go_simp; (with_reducible refine hK _ ?_); clear hK K)
                  refine wpHeld_nil ?_
                  refine wpAllH_one 11 rfl (by kernel_rfl) ?_
                  refine lw hM ?_
                  clear hM hS
                  intro wy hM
                  have hS : ∃ L' R', Mem [] w (⟨g9, 66, 13, refCs T v⟩ :: L') R' wy := ⟨_, _, hM.subL (List.sublist_cons_self _ _)⟩
                  refine wpList_then ⟨hS, ?_⟩
                  refine wpAllH_takes [12] (by kernel_rfl) (fun _ _ _ _ _ h => h) hS (by kernel_rfl) ?_
                  simp only [pickOps, List.filterMap_cons, List.filterMap_nil, List.getElem?_cons_zero, List.getElem?_cons_succ]
                  repeat ((with_reducible apply wpHeld_step); (· rfl); (· (intro w hSw; first | (go_simp; rfl) | (fail))); intro K hK; go_simp; (with_reducible refine hK _ ?_); clear hK K)
                  refine wpHeld_nil ?_
                  refine wpAllH_done (by kernel_rfl) ?_
                  have HT2 := Lib.hid HT'
                  clear HT'
                  go_wp2_with (first | ((first | with_reducible refine at_load ?_ | ((with_reducible refine at_load_g ?_ ?_); (· rfl))); first | refine lc hM ?_ | refine ll hM ?_ | refine lp hM ?_) | ((with_reducible refine at_store ?_); first | (refine ls hM ?_; clear hM; intro wx hM) | (refine lw hM ?_; clear hM; intro wx hM) | (refine lt hM ?_; clear hM; intro wx hM)) | ((with_reducible refine at_alloc ?_); refine lz hM ?_; clear hM; intro gx wx hM) | ((with_reducible refine at_box ?_); refine lb hM ?_; clear hM; intro gx wx hM))
                  exact ⟨⟨k + 1, S', T', v', fp', by omega, by omega, by go_num, by rw [show 3000 + 200 * (k + 1) = 3000 + 200 * k + 200 by omega]; exact HT2, hM.subL (List.sublist_cons_self _ _)⟩, by simp [intOf]; omega⟩
              · have HB2 : k = m2 ∨ (k < m2 ∧ k = 15) := by omega
                rcases HB2 with h | ⟨h, h2⟩
                · subst h
                  clear hlt
                  go_wp2_with (first | ((first | with_reducible refine at_load ?_ | ((with_reducible refine at_load_g ?_ ?_); (· rfl))); first | refine lc hM ?_ | refine ll hM ?_ | refine lp hM ?_) | ((with_reducible refine at_store ?_); first | (refine ls hM ?_; clear hM; intro wx hM) | (refine lw hM ?_; clear hM; intro wx hM) | (refine lt hM ?_; clear hM; intro wx hM)) | ((with_reducible refine at_alloc ?_); refine lz hM ?_; clear hM; intro gx wx hM) | ((with_reducible refine at_box ?_); refine lb hM ?_; clear hM; intro gx wx hM))
                  go_ret
                  exact ⟨rfl, Mem.below hM⟩
                · subst h2
                  have hk1 : ((15 : Nat) : Int) < (m2 : Int) := by omega
                  clear hlt
                  go_wp2_with (first | ((first | with_reducible refine at_load ?_ | ((with_reducible refine at_load_g ?_ ?_); (· rfl))); first | refine lc hM ?_ | refine ll hM ?_ | refine lp hM ?_) | ((with_reducible refine at_store ?_); first | (refine ls hM ?_; clear hM; intro wx hM) | (refine lw hM ?_; clear hM; intro wx hM) | (refine lt hM ?_; clear hM; intro wx hM)) | ((with_reducible refine at_alloc ?_); refine lz hM ?_; clear hM; intro gx wx hM) | ((with_reducible refine at_box ?_); refine lb hM ?_; clear hM; intro gx wx hM))
                  go_ret
                  exact ⟨rfl, Mem.below hM⟩
        · subst h2
          have hk1 : ((15 : Nat) : Int) < (m : Int) := by omega
          clear hlt
          cases hup : S.up with
          | true =>
            have HU := Lib.hid (fun (L : List Ent) (fp : List Nat) w' (h : Mem [] w L [lineT fp g S, refT T v] w') => up_any (HasLine.of h))
            have HD := Lib.hid (fun (L : List Ent) (fp : List Nat) w' (h : Mem [] w L [lineT fp g S, refT T v] w') => ldrop_in h hT0.rel)
            have HR := Lib.hid (fun (S' : Ln) (L : List Ent) (fp : List Nat) w' (h : Mem [] w L [lineT fp g S', refT T v] w') => rdrop_in h (UpdR.tail _ (UpdR.head _ _)))
            have htu : T.up = true := by rw [hT0.rel.up, hup]
            rw [hup] at HU
            rw [htu, hup, if_pos rfl, if_pos rfl] at HD
            rw [htu, if_pos rfl, if_pos rfl] at HR
            have hT1 := tie_down hT0
            have HUP := Lib.hid (fun (L : List Ent) (fp : List Nat) w' (h : Mem [] w L [lineT fp g (downS S), refT T v] w') => up_any (HasLine.of h))
            have HW0 := Lib.hid (fun (L : List Ent) (fp : List Nat) w' (h : Mem [] w L [lineT fp g (downS S), refT T v] w') => dwait_0 (HasLine.of h) rfl)
            have HW1 := Lib.hid (fun (L : List Ent) (fp : List Nat) w' (h : Mem [] w L [lineT fp g (downS S), refT T v] w') => dwait_1 (HasLine.of h) rfl)
            have HY0 := Lib.hid (fun (L : List Ent) (fp : List Nat) w' (h : Mem [] w L [lineT fp g (downS S), refT T v] w') => dunder_0 (HasLine.of h) rfl)
            have HY1 := Lib.hid (fun (L : List Ent) (fp : List Nat) w' (h : Mem [] w L [lineT fp g (downS S), refT T v] w') => dunder_1 (HasLine.of h) rfl)
            have hd : (downS S).up = false := rfl
            rw [hd] at HUP
            generalize downS S = S' at HD HUP HW0 HW1 HY0 HY1 hT1
            generalize downR T = T' at HR hT1
            clear hT0 hup htu hd
            have HT1 := Lib.hid hT1
            clear hT1
            go_upto_region 16 with (first | ((with_reducible refine (HU.out _ _ _ hM).mono ?_); rintro e w1 ⟨rfl, rfl⟩; clear HU) | ((with_reducible refine (HD.out _ _ _ hM).mono ?_); clear hM HD; rintro e w1 ⟨fp2, rfl, hM⟩) | ((with_reducible refine (HUP.out _ _ _ hM).mono ?_); rintro e w1 ⟨rfl, rfl⟩) | ((with_reducible refine (HW0.out _ _ _ hM).mono ?_); rintro e w1 ⟨rfl, rfl⟩) | ((with_reducible refine (HW1.out _ _ _ hM).mono ?_); rintro e w1 ⟨rfl, rfl⟩) | ((with_reducible refine (HY0.out _ _ _ hM).mono ?_); rintro e w1 ⟨rfl, hb⟩; replace hM := hM.step hb; clear hb) | ((with_reducible refine (HY1.out _ _ _ hM).mono ?_); rintro e w1 ⟨rfl, hb⟩; replace hM := hM.step hb; clear hb) | ((with_reducible refine (HR.out _ _ _ _ hM).mono ?_); clear hM; rintro e w1 ⟨v2, rfl, hM⟩) | ((first | with_reducible refine at_load ?_ | ((with_reducible refine at_load_g ?_ ?_); (· rfl))); first | refine lc hM ?_ | refine ll hM ?_ | refine lp hM ?_) | ((with_reducible refine at_store ?_); first | (refine ls hM ?_; clear hM; intro wx hM) | (refine lw hM ?_; clear hM; intro wx hM) | (refine lt hM ?_; clear hM; intro wx hM)) | ((with_reducible refine at_alloc ?_); refine lz hM ?_; clear hM; intro gx wx hM) | ((with_reducible refine at_box ?_); refine lb hM ?_; clear hM; intro gx wx hM))
            clear HUP HW0 HW1 HY0 HY1 HR
            have M0 := Lib.hid hM
            clear hM
            go_wp2_with (first | ((first | with_reducible refine at_load ?_ | ((with_reducible refine at_load_g ?_ ?_); (· rfl))); first | refine lc hM ?_ | refine ll hM ?_ | refine lp hM ?_) | ((with_reducible refine at_store ?_); first | (refine ls hM ?_; clear hM; intro wx hM) | (refine lw hM ?_; clear hM; intro wx hM) | (refine lt hM ?_; clear hM; intro wx hM)) | ((with_reducible refine at_alloc ?_); refine lz hM ?_; clear hM; intro gx wx hM) | ((with_reducible refine at_box ?_); refine lb hM ?_; clear hM; intro gx wx hM))
            go_loopw [13] (fun i wr => ∃ (k : Nat) (S : Ln) (T : RL) (v : RV) (fp : List Nat), k ≤ m2 ∧ k ≤ 15 ∧ i = .int .i64 (k : Nat) ∧ Hid (Tie (3000 + 200 * k) S T) ∧ Mem [] w [⟨g9, 66, 13, refCs T v⟩] [lineT fp g S, refT T v] wr) (fun i _ => 15 - (intOf i).toNat)
            case atStart => exact ⟨0, S', T', _, _, by omega, by omega, rfl, HT1, M0.out⟩
            case round =>
              clear M0 HT1
              obtain ⟨k, S, T, v, fp, hk, hk30, rfl, HS, hM⟩ := hrel
              by_cases hlt : k < m2 ∧ k < 15
              · obtain ⟨hkm, hk3⟩ := hlt
                have hkl : k < os2.length := by have := HO2.out.len; omega
                obtain ⟨gb, ob, rfl, hgl, _⟩ := HO2.out.at_ (by omega)
                have HX := Lib.hid (fun w' (hb : Below w.heap.size w w') => (HO2.out.keep hb).cell k hkl)
                have hok := HO2.out.ok _ (List.getElem_mem hkl)
                obtain ⟨o, ho⟩ : ∃ o, o = os2[k] := ⟨_, rfl⟩
                rw [← ho] at HX hok
                clear ho
                have hk0 : (0 : Int) ≤ (k : Int) := Int.natCast_nonneg _
                have hk1 : (k : Int) < (m2 : Int) := by omega
                have hk2 : (k : Int) < 15 := by omega
                have HD := Lib.hid (fun (L : List Ent) (fp : List Nat) w' (h : Mem [] w L [lineT fp g S, refT T v] w') => do_any o hok h HS.out (by omega))
                clear hok
                go_upto_region 19 with (first | ((first | with_reducible refine at_load ?_ | ((with_reducible refine at_load_g ?_ ?_); (· rfl))); first | refine lc hM ?_ | refine ll hM ?_ | refine lp hM ?_) | ((with_reducible refine at_store ?_); first | (refine ls hM ?_; clear hM; intro wx hM) | (refine lw hM ?_; clear hM; intro wx hM) | (refine lt hM ?_; clear hM; intro wx hM)) | ((with_reducible refine at_alloc ?_); refine lz hM ?_; clear hM; intro gx wx hM) | ((with_reducible refine at_box ?_); refine lb hM ?_; clear hM; intro gx wx hM))
                refine wp_region_allHM hM (fun w' => ∃ L' R', Mem [] w (⟨g9, 66, 13, refCs T v⟩ :: L') R' w') (by kernel_rfl) ?_
                clear hM
                intro wd hM
                have hS : ∃ L' R', Mem [] w (⟨g9, 66, 13, refCs T v⟩ :: L') R' wd := ⟨_, _, hM⟩
                refine wpAllH_takes [0, 2, 3, 4, 1, 5] (by kernel_rfl) (fun _ _ _ _ _ h => h) hS (by kernel_rfl) ?_
                simp only [pickOps, List.filterMap_cons, List.filterMap_nil, List.getElem?_cons_zero, List.getElem?_cons_succ]
                repeat ((with_reducible apply wpHeld_step); (· rfl); (· (intro w hSw; first | (go_simp; rfl) | ((obtain ⟨_, _, hM'⟩ := hSw; first | exact yields_load (C := fun _ => True) (ql hM') rfl | exact held_row (HX.out _ hM'.below))))); intro K hK; go_simp; (with_reducible refine hK _ ?_); clear hK K)
                refine wpHeld_nil ?_
                refine wpAllH_two 6 10 rfl rfl (by kernel_rfl) ?_ ?_
                · go_wp2_with fail
                  refine (HD.out _ _ _ hM).mono ?_
                  clear hM hS
                  rintro e w1 ⟨S', T', fp', v', rfl, HT', hM⟩
                  go_wp2_with fail
                  have hS : ∃ L' R', Mem [] w (⟨g9, 66, 13, refCs T v⟩ :: L') R' w1 := ⟨_, _, hM⟩
                  refine then_normal ⟨hS, ?_⟩
                  refine wpAllH_takes [7, 8, 9] (by kernel_rfl) (fun _ _ _ _ _ h => h) hS (by kernel_rfl) ?_
                  simp only [pickOps, List.filterMap_cons, List.filterMap_nil, List.getElem?_cons_zero, List.getElem?_cons_succ]
                  repeat ((with_reducible apply wpHeld_step); (· rfl); (· (intro w hSw; first | (go_simp; rfl) | (fail))); intro K hK; go_simp; (with_reducible refine hK _ ?_); clear hK K)
                  refine wpHeld_nil ?_
                  refine wpAllH_one 10 rfl (by kernel_rfl) ?_
                  refine lz hM ?_
                  clear hM hS
                  intro g14 wx hM
                  refine wpList_then ⟨⟨_, _, hM.subL (List.sublist_cons_self _ _)⟩, ?_⟩
                  refine wpAllH_one 11 rfl (by kernel_rfl) ?_
                  refine lw hM ?_
                  clear hM
                  intro wy hM
                  have hS : ∃ L' R', Mem [] w (⟨g9, 66, 13, refCs T v⟩ :: L') R' wy := ⟨_, _, hM.subL (List.sublist_cons_self _ _)⟩
                  refine wpList_then ⟨hS, ?_⟩
                  refine wpAllH_takes [12] (by kernel_rfl) (fun _ _ _ _ _ h => h) hS (by kernel_rfl) ?_
                  simp only [pickOps, List.filterMap_cons, List.filterMap_nil, List.getElem?_cons_zero, List.getElem?_cons_succ]
                  repeat ((with_reducible apply wpHeld_step); (· rfl); (· (intro w hSw; first | (go_simp; rfl) | (fail))); intro K hK; go_simp; (with_reducible refine hK _ ?_); clear hK K)
                  refine wpHeld_nil ?_
                  refine wpAllH_done (by kernel_rfl) ?_
                  have HT2 := Lib.hid HT'
                  clear HT'
                  go_wp2_with (first | ((first | with_reducible refine at_load ?_ | ((with_reducible refine at_load_g ?_ ?_); (· rfl))); first | refine lc hM ?_ | refine ll hM ?_ | refine lp hM ?_) | ((with_reducible refine at_store ?_); first | (refine ls hM ?_; clear hM; intro wx hM) | (refine lw hM ?_; clear hM; intro wx hM) | (refine lt hM ?_; clear hM; intro wx hM)) | ((with_reducible refine at_alloc ?_); refine lz hM ?_; clear hM; intro gx wx hM) | ((with_reducible refine at_box ?_); refine lb hM ?_; clear hM; intro gx wx hM))
                  exact ⟨⟨k + 1, S', T', v', fp', by omega, by omega, by go_num, by rw [show 3000 + 200 * (k + 1) = 3000 + 200 * k + 200 by omega]; exact HT2, hM.subL (List.sublist_cons_self _ _)⟩, by simp [intOf]; omega⟩
                · refine lz hM ?_
                  clear hM hS
                  intro g14 wx hM
                  have hS : ∃ L' R', Mem [] w (⟨g9, 66, 13, refCs T v⟩ :: L') R' wx := ⟨_, _, hM.subL (List.sublist_cons_self _ _)⟩
                  refine wpList_then ⟨hS, ?_⟩
                  refine wpAllH_one 6 rfl (by kernel_rfl) ?_
                  go_wp2_with fail
                  refine (HD.out _ _ _ hM).mono ?_
                  clear hM hS
                  rintro e w1 ⟨S', T', fp', v', rfl, HT', hM⟩
                  go_wp2_with fail
                  have hS : ∃ L' R', Mem [] w (⟨g9, 66, 13, refCs T v⟩ :: L') R' w1 := ⟨_, _, hM.subL (List.sublist_cons_self _ _)⟩
                  refine then_normal ⟨hS, ?_⟩
                  refine wpAllH_takes [7, 8, 9] (by kernel_rfl) (fun _ _ _ _ _ h => h) hS (by kernel_rfl) ?_
                  simp only [pickOps, List.filterMap_cons, List.filterMap_nil, List.getElem?_cons_zero, List.getElem?_cons_succ]
                  repeat ((with_reducible apply wpHeld_step); (· rfl); (· (intro w hSw; first | (go_simp; rfl) | (fail))); intro K hK; go_simp; (with_reducible refine hK _ ?_); clear hK K)
                  refine wpHeld_nil ?_
                  refine wpAllH_one 11 rfl (by kernel_rfl) ?_
                  refine lw hM ?_
                  clear hM hS
                  intro wy hM
                  have hS : ∃ L' R', Mem [] w (⟨g9, 66, 13, refCs T v⟩ :: L') R' wy := ⟨_, _, hM.subL (List.sublist_cons_self _ _)⟩
                  refine wpList_then ⟨hS, ?_⟩
                  refine wpAllH_takes [12] (by kernel_rfl) (fun _ _ _ _ _ h => h) hS (by kernel_rfl) ?_
                  simp only [pickOps, List.filterMap_cons, List.filterMap_nil, List.getElem?_cons_zero, List.getElem?_cons_succ]
                  repeat ((with_reducible apply wpHeld_step); (· rfl); (· (intro w hSw; first | (go_simp; rfl) | (fail))); intro K hK; go_simp; (with_reducible refine hK _ ?_); clear hK K)
                  refine wpHeld_nil ?_
                  refine wpAllH_done (by kernel_rfl) ?_
                  have HT2 := Lib.hid HT'
                  clear HT'
                  go_wp2_with (first | ((first | with_reducible refine at_load ?_ | ((with_reducible refine at_load_g ?_ ?_); (· rfl))); first | refine lc hM ?_ | refine ll hM ?_ | refine lp hM ?_) | ((with_reducible refine at_store ?_); first | (refine ls hM ?_; clear hM; intro wx hM) | (refine lw hM ?_; clear hM; intro wx hM) | (refine lt hM ?_; clear hM; intro wx hM)) | ((with_reducible refine at_alloc ?_); refine lz hM ?_; clear hM; intro gx wx hM) | ((with_reducible refine at_box ?_); refine lb hM ?_; clear hM; intro gx wx hM))
                  exact ⟨⟨k + 1, S', T', v', fp', by omega, by omega, by go_num, by rw [show 3000 + 200 * (k + 1) = 3000 + 200 * k + 200 by omega]; exact HT2, hM.subL (List.sublist_cons_self _ _)⟩, by simp [intOf]; omega⟩
              · have HB2 : k = m2 ∨ (k < m2 ∧ k = 15) := by omega
                rcases HB2 with h | ⟨h, h2⟩
                · subst h
                  clear hlt
                  go_wp2_with (first | ((first | with_reducible refine at_load ?_ | ((with_reducible refine at_load_g ?_ ?_); (· rfl))); first | refine lc hM ?_ | refine ll hM ?_ | refine lp hM ?_) | ((with_reducible refine at_store ?_); first | (refine ls hM ?_; clear hM; intro wx hM) | (refine lw hM ?_; clear hM; intro wx hM) | (refine lt hM ?_; clear hM; intro wx hM)) | ((with_reducible refine at_alloc ?_); refine lz hM ?_; clear hM; intro gx wx hM) | ((with_reducible refine at_box ?_); refine lb hM ?_; clear hM; intro gx wx hM))
                  go_ret
                  exact ⟨rfl, Mem.below hM⟩
                · subst h2
                  have hk1 : ((15 : Nat) : Int) < (m2 : Int) := by omega
                  clear hlt
                  go_wp2_with (first | ((first | with_reducible refine at_load ?_ | ((with_reducible refine at_load_g ?_ ?_); (· rfl))); first | refine lc hM ?_ | refine ll hM ?_ | refine lp hM ?_) | ((with_reducible refine at_store ?_); first | (refine ls hM ?_; clear hM; intro wx hM) | (refine lw hM ?_; clear hM; intro wx hM) | (refine lt hM ?_; clear hM; intro wx hM)) | ((with_reducible refine at_alloc ?_); refine lz hM ?_; clear hM; intro gx wx hM) | ((with_reducible refine at_box ?_); refine lb hM ?_; clear hM; intro gx wx hM))
                  go_ret
                  exact ⟨rfl, Mem.below hM⟩
          | false =>
            have hdn := hT0.fit.dn hup
            have HU := Lib.hid (fun (L : List Ent) (fp : List Nat) w' (h : Mem [] w L [lineT fp g S, refT T v] w') => up_any (HasLine.of h))
            have HD := Lib.hid (fun (L : List Ent) (fp : List Nat) w' (h : Mem [] w L [lineT fp g S, refT T v] w') => ldrop_in h hT0.rel)
            have htu : T.up = false := by rw [hT0.rel.up, hup]
            rw [hup] at HU
            rw [htu, hup, if_neg (by decide), if_neg (by decide)] at HD
            have HW0 := Lib.hid (fun (L : List Ent) (fp : List Nat) w' (h : Mem [] w L [lineT fp g S, refT T v] w') => dwait_0 (HasLine.of h) hdn.1.1)
            have HW1 := Lib.hid (fun (L : List Ent) (fp : List Nat) w' (h : Mem [] w L [lineT fp g S, refT T v] w') => dwait_1 (HasLine.of h) hdn.2.1)
            have HY0 := Lib.hid (fun (L : List Ent) (fp : List Nat) w' (h : Mem [] w L [lineT fp g S, refT T v] w') => dunder_0 (HasLine.of h) hdn.1.2)
            have HY1 := Lib.hid (fun (L : List Ent) (fp : List Nat) w' (h : Mem [] w L [lineT fp g S, refT T v] w') => dunder_1 (HasLine.of h) hdn.2.2)
            have HT1 := Lib.hid hT0
            clear hT0 hup htu hdn
            obtain ⟨S', rfl⟩ : ∃ x, x = S := ⟨_, rfl⟩
            obtain ⟨T', rfl⟩ : ∃ x, x = T := ⟨_, rfl⟩
            obtain ⟨v2, rfl⟩ : ∃ x, x = v := ⟨_, rfl⟩
            go_upto_region 16 with (first | ((with_reducible refine (HU.out _ _ _ hM).mono ?_); rintro e w1 ⟨rfl, rfl⟩) | ((with_reducible refine (HD.out _ _ _ hM).mono ?_); clear hM HD; rintro e w1 ⟨fp2, rfl, hM⟩) | ((with_reducible refine (HW0.out _ _ _ hM).mono ?_); rintro e w1 ⟨rfl, rfl⟩) | ((with_reducible refine (HW1.out _ _ _ hM).mono ?_); rintro e w1 ⟨rfl, rfl⟩) | ((with_reducible refine (HY0.out _ _ _ hM).mono ?_); rintro e w1 ⟨rfl, hb⟩; replace hM := hM.step hb; clear hb) | ((with_reducible refine (HY1.out _ _ _ hM).mono ?_); rintro e w1 ⟨rfl, hb⟩; replace hM := hM.step hb; clear hb) | ((first | with_reducible refine at_load ?_ | ((with_reducible refine at_load_g ?_ ?_); (· rfl))); first | refine lc hM ?_ | refine ll hM ?_ | refine lp hM ?_) | ((with_reducible refine at_store ?_); first | (refine ls hM ?_; clear hM; intro wx hM) | (refine lw hM ?_; clear hM; intro wx hM) | (refine lt hM ?_; clear hM; intro wx hM)) | ((with_reducible refine at_alloc ?_); refine lz hM ?_; clear hM; intro gx wx hM) | ((with_reducible refine at_box ?_); refine lb hM ?_; clear hM; intro gx wx hM))
            clear HU HW0 HW1 HY0 HY1
            have M0 := Lib.hid hM
            clear hM
            go_wp2_with (first | ((first | with_reducible refine at_load ?_ | ((with_reducible refine at_load_g ?_ ?_); (· rfl))); first | refine lc hM ?_ | refine ll hM ?_ | refine lp hM ?_) | ((with_reducible refine at_store ?_); first | (refine ls hM ?_; clear hM; intro wx hM) | (refine lw hM ?_; clear hM; intro wx hM) | (refine lt hM ?_; clear hM; intro wx hM)) | ((with_reducible refine at_alloc ?_); refine lz hM ?_; clear hM; intro gx wx hM) | ((with_reducible refine at_box ?_); refine lb hM ?_; clear hM; intro gx wx hM))
            go_loopw [13] (fun i wr => ∃ (k : Nat) (S : Ln) (T : RL) (v : RV) (fp : List Nat), k ≤ m2 ∧ k ≤ 15 ∧ i = .int .i64 (k : Nat) ∧ Hid (Tie (3000 + 200 * k) S T) ∧ Mem [] w [⟨g9, 66, 13, refCs T v⟩] [lineT fp g S, refT T v] wr) (fun i _ => 15 - (intOf i).toNat)
            case atStart => exact ⟨0, S', T', _, _, by omega, by omega, rfl, HT1, M0.out⟩
            case round =>
              clear M0 HT1
              obtain ⟨k, S, T, v, fp, hk, hk30, rfl, HS, hM⟩ := hrel
              by_cases hlt : k < m2 ∧ k < 15
              · obtain ⟨hkm, hk3⟩ := hlt
                have hkl : k < os2.length := by have := HO2.out.len; omega
                obtain ⟨gb, ob, rfl, hgl, _⟩ := HO2.out.at_ (by omega)
                have HX := Lib.hid (fun w' (hb : Below w.heap.size w w') => (HO2.out.keep hb).cell k hkl)
                have hok := HO2.out.ok _ (List.getElem_mem hkl)
                obtain ⟨o, ho⟩ : ∃ o, o = os2[k] := ⟨_, rfl⟩
                rw [← ho] at HX hok
                clear ho
                have hk0 : (0 : Int) ≤ (k : Int) := Int.natCast_nonneg _
                have hk1 : (k : Int) < (m2 : Int) := by omega
                have hk2 : (k : Int) < 15 := by omega
                have HD := Lib.hid (fun (L : List Ent) (fp : List Nat) w' (h : Mem [] w L [lineT fp g S, refT T v] w') => do_any o hok h HS.out (by omega))
                clear hok
                go_upto_region 19 with (first | ((first | with_reducible refine at_load ?_ | ((with_reducible refine at_load_g ?_ ?_); (· rfl))); first | refine lc hM ?_ | refine ll hM ?_ | refine lp hM ?_) | ((with_reducible refine at_store ?_); first | (refine ls hM ?_; clear hM; intro wx hM) | (refine lw hM ?_; clear hM; intro wx hM) | (refine lt hM ?_; clear hM; intro wx hM)) | ((with_reducible refine at_alloc ?_); refine lz hM ?_; clear hM; intro gx wx hM) | ((with_reducible refine at_box ?_); refine lb hM ?_; clear hM; intro gx wx hM))
                refine wp_region_allHM hM (fun w' => ∃ L' R', Mem [] w (⟨g9, 66, 13, refCs T v⟩ :: L') R' w') (by kernel_rfl) ?_
                clear hM
                intro wd hM
                have hS : ∃ L' R', Mem [] w (⟨g9, 66, 13, refCs T v⟩ :: L') R' wd := ⟨_, _, hM⟩
                refine wpAllH_takes [0, 2, 3, 4, 1, 5] (by kernel_rfl) (fun _ _ _ _ _ h => h) hS (by kernel_rfl) ?_
                simp only [pickOps, List.filterMap_cons, List.filterMap_nil, List.getElem?_cons_zero, List.getElem?_cons_succ]
                repeat ((with_reducible apply wpHeld_step); (· rfl); (· (intro w hSw; first | (go_simp; rfl) | ((obtain ⟨_, _, hM'⟩ := hSw; first | exact yields_load (C := fun _ => True) (ql hM') rfl | exact held_row (HX.out _ hM'.below))))); intro K hK; go_simp; (with_reducible refine hK _ ?_); clear hK K)
                refine wpHeld_nil ?_
                refine wpAllH_two 6 10 rfl rfl (by kernel_rfl) ?_ ?_
                · go_wp2_with fail
                  refine (HD.out _ _ _ hM).mono ?_
                  clear hM hS
                  rintro e w1 ⟨S', T', fp', v', rfl, HT', hM⟩
                  go_wp2_with fail
                  have hS : ∃ L' R', Mem [] w (⟨g9, 66, 13, refCs T v⟩ :: L') R' w1 := ⟨_, _, hM⟩
                  refine then_normal ⟨hS, ?_⟩
                  refine wpAllH_takes [7, 8, 9] (by kernel_rfl) (fun _ _ _ _ _ h => h) hS (by kernel_rfl) ?_
                  simp only [pickOps, List.filterMap_cons, List.filterMap_nil, List.getElem?_cons_zero, List.getElem?_cons_succ]
                  repeat ((with_reducible apply wpHeld_step); (· rfl); (· (intro w hSw; first | (go_simp; rfl) | (fail))); intro K hK; go_simp; (with_reducible refine hK _ ?_); clear hK K)
                  refine wpHeld_nil ?_
                  refine wpAllH_one 10 rfl (by kernel_rfl) ?_
                  refine lz hM ?_
                  clear hM hS
                  intro g14 wx hM
                  refine wpList_then ⟨⟨_, _, hM.subL (List.sublist_cons_self _ _)⟩, ?_⟩
                  refine wpAllH_one 11 rfl (by kernel_rfl) ?_
                  refine lw hM ?_
                  clear hM
                  intro wy hM
                  have hS : ∃ L' R', Mem [] w (⟨g9, 66, 13, refCs T v⟩ :: L') R' wy := ⟨_, _, hM.subL (List.sublist_cons_self _ _)⟩
                  refine wpList_then ⟨hS, ?_⟩
                  refine wpAllH_takes [12] (by kernel_rfl) (fun _ _ _ _ _ h => h) hS (by kernel_rfl) ?_
                  simp only [pickOps, List.filterMap_cons, List.filterMap_nil, List.getElem?_cons_zero, List.getElem?_cons_succ]
                  repeat ((with_reducible apply wpHeld_step); (· rfl); (· (intro w hSw; first | (go_simp; rfl) | (fail))); intro K hK; go_simp; (with_reducible refine hK _ ?_); clear hK K)
                  refine wpHeld_nil ?_
                  refine wpAllH_done (by kernel_rfl) ?_
                  have HT2 := Lib.hid HT'
                  clear HT'
                  go_wp2_with (first | ((first | with_reducible refine at_load ?_ | ((with_reducible refine at_load_g ?_ ?_); (· rfl))); first | refine lc hM ?_ | refine ll hM ?_ | refine lp hM ?_) | ((with_reducible refine at_store ?_); first | (refine ls hM ?_; clear hM; intro wx hM) | (refine lw hM ?_; clear hM; intro wx hM) | (refine lt hM ?_; clear hM; intro wx hM)) | ((with_reducible refine at_alloc ?_); refine lz hM ?_; clear hM; intro gx wx hM) | ((with_reducible refine at_box ?_); refine lb hM ?_; clear hM; intro gx wx hM))
                  exact ⟨⟨k + 1, S', T', v', fp', by omega, by omega, by go_num, by rw [show 3000 + 200 * (k + 1) = 3000 + 200 * k + 200 by omega]; exact HT2, hM.subL (List.sublist_cons_self _ _)⟩, by simp [intOf]; omega⟩
                · refine lz hM ?_
                  clear hM hS
                  intro g14 wx hM
                  have hS : ∃ L' R', Mem [] w (⟨g9, 66, 13, refCs T v⟩ :: L') R' wx := ⟨_, _, hM.subL (List.sublist_cons_self _ _)⟩
                  refine wpList_then ⟨hS, ?_⟩
                  refine wpAllH_one 6 rfl (by kernel_rfl) ?_
                  go_wp2_with fail
                  refine (HD.out _ _ _ hM).mono ?_
                  clear hM hS
                  rintro e w1 ⟨S', T', fp', v', rfl, HT', hM⟩
                  go_wp2_with fail
                  have hS : ∃ L' R', Mem [] w (⟨g9, 66, 13, refCs T v⟩ :: L') R' w1 := ⟨_, _, hM.subL (List.sublist_cons_self _ _)⟩
                  refine then_normal ⟨hS, ?_⟩
                  refine wpAllH_takes [7, 8, 9] (by kernel_rfl) (fun _ _ _ _ _ h => h) hS (by kernel_rfl) ?_
                  simp only [pickOps, List.filterMap_cons, List.filterMap_nil, List.getElem?_cons_zero, List.getElem?_cons_succ]
                  repeat ((with_reducible apply wpHeld_step); (· rfl); (· (intro w hSw; first | (go_simp; rfl) | (fail))); intro K hK; go_simp; (with_reducible refine hK _ ?_); clear hK K)
                  refine wpHeld_nil ?_
                  refine wpAllH_one 11 rfl (by kernel_rfl) ?_
                  refine lw hM ?_
                  clear hM hS
                  intro wy hM
                  have hS : ∃ L' R', Mem [] w (⟨g9, 66, 13, refCs T v⟩ :: L') R' wy := ⟨_, _, hM.subL (List.sublist_cons_self _ _)⟩
                  refine wpList_then ⟨hS, ?_⟩
                  refine wpAllH_takes [12] (by kernel_rfl) (fun _ _ _ _ _ h => h) hS (by kernel_rfl) ?_
                  simp only [pickOps, List.filterMap_cons, List.filterMap_nil, List.getElem?_cons_zero, List.getElem?_cons_succ]
                  repeat ((with_reducible apply wpHeld_step); (· rfl); (· (intro w hSw; first | (go_simp; rfl) | (fail))); intro K hK; go_simp; (with_reducible refine hK _ ?_); clear hK K)
                  refine wpHeld_nil ?_
                  refine wpAllH_done (by kernel_rfl) ?_
                  have HT2 := Lib.hid HT'
                  clear HT'
                  go_wp2_with (first | ((first | with_reducible refine at_load ?_ | ((with_reducible refine at_load_g ?_ ?_); (· rfl))); first | refine lc hM ?_ | refine ll hM ?_ | refine lp hM ?_) | ((with_reducible refine at_store ?_); first | (refine ls hM ?_; clear hM; intro wx hM) | (refine lw hM ?_; clear hM; intro wx hM) | (refine lt hM ?_; clear hM; intro wx hM)) | ((with_reducible refine at_alloc ?_); refine lz hM ?_; clear hM; intro gx wx hM) | ((with_reducible refine at_box ?_); refine lb hM ?_; clear hM; intro gx wx hM))
                  exact ⟨⟨k + 1, S', T', v', fp', by omega, by omega, by go_num, by rw [show 3000 + 200 * (k + 1) = 3000 + 200 * k + 200 by omega]; exact HT2, hM.subL (List.sublist_cons_self _ _)⟩, by simp [intOf]; omega⟩
              · have HB2 : k = m2 ∨ (k < m2 ∧ k = 15) := by omega
                rcases HB2 with h | ⟨h, h2⟩
                · subst h
                  clear hlt
                  go_wp2_with (first | ((first | with_reducible refine at_load ?_ | ((with_reducible refine at_load_g ?_ ?_); (· rfl))); first | refine lc hM ?_ | refine ll hM ?_ | refine lp hM ?_) | ((with_reducible refine at_store ?_); first | (refine ls hM ?_; clear hM; intro wx hM) | (refine lw hM ?_; clear hM; intro wx hM) | (refine lt hM ?_; clear hM; intro wx hM)) | ((with_reducible refine at_alloc ?_); refine lz hM ?_; clear hM; intro gx wx hM) | ((with_reducible refine at_box ?_); refine lb hM ?_; clear hM; intro gx wx hM))
                  go_ret
                  exact ⟨rfl, Mem.below hM⟩
                · subst h2
                  have hk1 : ((15 : Nat) : Int) < (m2 : Int) := by omega
                  clear hlt
                  go_wp2_with (first | ((first | with_reducible refine at_load ?_ | ((with_reducible refine at_load_g ?_ ?_); (· rfl))); first | refine lc hM ?_ | refine ll hM ?_ | refine lp hM ?_) | ((with_reducible refine at_store ?_); first | (refine ls hM ?_; clear hM; intro wx hM) | (refine lw hM ?_; clear hM; intro wx hM) | (refine lt hM ?_; clear hM; intro wx hM)) | ((with_reducible refine at_alloc ?_); refine lz hM ?_; clear hM; intro gx wx hM) | ((with_reducible refine at_box ?_); refine lb hM ?_; clear hM; intro gx wx hM))
                  go_ret
                  exact ⟨rfl, Mem.below hM⟩
  · obtain ⟨z, hzz⟩ : ∃ z, chk r d p us = z := ⟨_, rfl⟩
    have c1 : (z != 0) = true := by rw [← hzz]; simpa using hz
    have HN := Lib.hid (fun (A : Option Addr) (c : Nat) w hW => new_no (w := w) r d p A us.length c us hW (by omega) hz)
    rw [hzz] at HN
    clear hz hzz hul
    go_enter Try.func9, Try.ntmps9
    go_wp2_with (first | ((with_reducible refine (known_any _).mono ?_); rintro e w1 ⟨rfl, hb⟩; replace hM := hM.step hb; clear hb) | ((with_reducible refine (HC.out _ hM.below).mono ?_); rintro e w1 ⟨A1, c1', rfl, hb⟩; replace hM := hM.newThing hb; clear hb) | ((with_reducible refine (config_in (wT_in hM (List.Mem.head _)) HU.out).mono ?_); rintro e w1 ⟨A2, c2, rfl, hb⟩; replace hM := hM.newThing hb; clear hb) | ((with_reducible refine (HN.out _ _ _ (winT_in hM (List.Mem.head _))).mono ?_); rintro e w1 ⟨rfl, hb⟩; replace hM := hM.step hb; clear hb) | ((first | with_reducible refine at_load ?_ | ((with_reducible refine at_load_g ?_ ?_); (· rfl))); first | refine lc hM ?_ | refine ll hM ?_ | refine lp hM ?_) | ((with_reducible refine at_store ?_); first | (refine ls hM ?_; clear hM; intro wx hM) | (refine lw hM ?_; clear hM; intro wx hM) | (refine lt hM ?_; clear hM; intro wx hM)) | ((with_reducible refine at_alloc ?_); refine lz hM ?_; clear hM; intro gx wx hM) | ((with_reducible refine at_box ?_); refine lb hM ?_; clear hM; intro gx wx hM))
    go_ret
    exact ⟨rfl, hM.below⟩
end Go.Proofs.Ytenflgbaibjeoaa
