/- LineDivision: the walk. LineClones: the walk. -/
import Derived.Test.YtenflgbaibjeoaaMng
import Derived.Test.YtenflgbaibjeoaaLsa
namespace Go.Lin
open Go
theorem passN_add (S : Ln) (a : Nat) : ∀ b : Nat, passN b (passN a S) = passN (a + b) S
  | 0 => rfl
  | b + 1 => by
    rw [← Nat.add_assoc]
    show passS (passN b (passN a S)) = passS (passN (a + b) S)
    rw [passN_add S a b]
theorem wb_mem : ∀ {way : List (List Nat × Int)} {x : List Nat × Int}, x ∈ way → x.1.length ≤ wb way
  | y :: l, x, h => by
    simp only [wb, List.map_cons, List.sum_cons]
    rcases List.mem_cons.1 h with rfl | h
    · omega
    · have := wb_mem h
      simp only [wb] at this
      omega
theorem eqB_len {a b : List Nat} (h : a.length ≠ b.length) : eqB a b = false := by
  unfold eqB
  refine decide_eq_false fun e => h ?_
  rw [← Go.Bul.bstr_size, ← Go.Bul.bstr_size, e]
theorem eqB_last {a b : List Nat} : eqB (a ++ [120]) (b ++ [121]) = false := by
  unfold eqB
  refine decide_eq_false fun e => ?_
  have h : (Go.Bul.bstr (a ++ [120])).data.toList = (Go.Bul.bstr (b ++ [121])).data.toList := by rw [e]
  rw [Go.Bul.bstr_toList, Go.Bul.bstr_toList, List.map_append, List.map_append] at h
  have h2 := congrArg List.getLast? h
  simp at h2
theorem eqLn_wait {S Z : Ln} (h : eqB S.e0.wait Z.e0.wait = false) : eqLn S Z = false := by simp [eqLn, eqSd, h]
theorem eqLn_up {S Z : Ln} (h : ¬ S.up = Z.up) : eqLn S Z = false := by simp [eqLn, h]
end Go.Lin
namespace Go.Proofs.Ytenflgbaibjeoaa
open Go Go.RowKit Go.Bul Go.Thg Go.Lin
theorem way_len {B : Nat} {S : Ln} {T : RL} (hT : Tie B S T) (hB : B ≤ 100000) : S.ws.length ≤ 1000 ∧ S.e0.way.length ≤ 100000 ∧ S.e1.way.length ≤ 100000 ∧ (∀ x ∈ S.e0.way, x.1.length ≤ 100000) ∧ ∀ x ∈ S.e1.way, x.1.length ≤ 100000 := by
  have hl := hT.fit.len
  obtain ⟨_, h32, _, _⟩ := chk_parts hT.chk
  have g0 := wb_ge hT.fit.ok.w0
  have g1 := wb_ge hT.fit.ok.w1
  refine ⟨by omega, by omega, by omega, fun x hx => ?_, fun x hx => ?_⟩
  · have := wb_mem hx; omega
  · have := wb_mem hx; omega
section
variable {w w0 : World} {G : List Nat} {L : List Ent} {R : List Thing} {S Z : Ln} {T U : RL} {fp : List Nat} {p q B C : Nat}
theorem read_mem (hM : Mem G w0 L R w) (h : lineT fp p S ∈ R) : ∃ x, LnIn w p S x := HasLine.read (HasLine.of (Mem.enter _ (hM.thing _ h)))
theorem clone_in (hM : Mem G w0 L R w) (h : lineT fp p S ∈ R) (hT : Tie B S T) (hB : B ≤ 100000) :
    Calls Try.prog 39 #[.pointer (some ⟨p, 0, none⟩)] w fun e w' => ∃ g fp', e = .returned (.pointer (some ⟨g, 0, none⟩)) ∧ Mem G w0 L (lineT fp' g S :: R) w' := by
  obtain ⟨x, hx⟩ := read_mem hM h
  have hl := hT.fit.len
  obtain ⟨a1, a2, a3, a4, a5⟩ := way_len hT hB
  refine (cloneln_any hx (by omega) (by omega) (by omega) (by omega) (fun x hx => by have := a4 x hx; omega) (by omega) (by omega) (by omega) (fun x hx => by have := a5 x hx; omega)).mono ?_
  rintro e w' ⟨g, rfl, hH⟩
  obtain ⟨fp', h2⟩ := (HasLine.frame hM hH).ex
  exact ⟨g, fp', rfl, h2⟩
theorem equal_in {fq : List Nat} (hM : Mem G w0 L R w) (h : lineT fp p S ∈ R) (h' : lineT fq q Z ∈ R) (hT : Tie B S T) (hU : Tie C Z U) (hB : B ≤ 100000) (hC : C ≤ 100000) :
    Calls Try.prog 40 #[.pointer (some ⟨p, 0, none⟩), .pointer (some ⟨q, 0, none⟩)] w fun e w' => e = .returned (.bool (eqLn S Z)) ∧ Below w.heap.size w w' := by
  obtain ⟨x, hx⟩ := read_mem hM h
  obtain ⟨y, hy⟩ := read_mem hM h'
  obtain ⟨a1, a2, a3, _, _⟩ := way_len hT hB
  obtain ⟨b1, b2, b3, _, _⟩ := way_len hU hC
  exact equal_any hx hy (by omega) (by omega) (by omega) (by omega) (by omega) (by omega)
theorem adv_1 (n : Nat) (hM : Mem G w0 L (lineT fp p S :: R) w) (hT : Tie B S T) (h : S.now + n ≤ 10000000) :
    Calls Try.prog 17 #[.pointer (some ⟨p, 0, none⟩), .int .i64 (n : Int)] w fun e w' => ∃ fp', e = .returned (.int .i64 0) ∧ Mem G w0 L (lineT fp' p (passN n S) :: R) w' := by
  refine (adv_any n (HasLine.of hM) hT.fit.ok (by omega) (by omega)).mono ?_
  rintro e w' ⟨rfl, h⟩
  rw [Int.toNat_natCast] at h
  obtain ⟨fp', h⟩ := h.ex
  exact ⟨fp', rfl, h⟩
theorem adv_2 (n : Nat) {X : Thing} (hM : Mem G w0 L (X :: lineT fp p S :: R) w) (hT : Tie B S T) (h : S.now + n ≤ 10000000) :
    Calls Try.prog 17 #[.pointer (some ⟨p, 0, none⟩), .int .i64 (n : Int)] w fun e w' => ∃ fp', e = .returned (.int .i64 0) ∧ Mem G w0 L (X :: lineT fp' p (passN n S) :: R) w' := by
  refine (adv_1 n (Mem.toFront [_] hM) hT h).mono ?_
  rintro e w' ⟨fp', rfl, h⟩
  exact ⟨fp', rfl, Mem.fromFront [_] h⟩
end
attribute [local irreducible] HasLine newS chk connected
set_option maxRecDepth 20000 in
set_option maxHeartbeats 40000000 in
theorem division_any (r d p : Int) (A : Option Addr) (n c : Nat) (ws : List Win) (B : Option Addr) (m c3 : Nat) (os : List OpR) (a b d1 : Nat) (w : World) (hI : WinsIn w A n c ws) (hO : OpsIn w B m os) (ha : a < 256) (hb : b < 256) (hd1 : d1 < 256) :
    Calls Try.prog 11 #[cfgV r d p A n c, .slice B m c3, .agg #[.int .u8 (a : Int), .int .u8 (b : Int), .int .u8 (d1 : Int)]] w fun e w' => e = .returned (.bool true) ∧ Below w.heap.size w w' := by
  have hM := Mem.start [] w
  have HC := Lib.hid (fun w' hb => cut_in (r := r) (d := d) (p := p) (hI.keep (w' := w') hb))
  obtain ⟨us, hus⟩ : ∃ us, ws.take 40 = us := ⟨_, rfl⟩
  have hul : us.length ≤ 40 := by rw [← hus, List.length_take]; omega
  rw [hus] at HC
  have HU := Lib.hid hul
  clear hus hI
  have HO := Lib.hid hO
  clear hO
  by_cases hz : chk r d p us = 0
  · have HN := Lib.hid (fun (A : Option Addr) (c : Nat) w hW => new_any (w := w) r d p A us.length c us hW (by omega) hz)
    have HRN := Lib.hid (fun (A : Option Addr) (c : Nat) w hW => rnew_any r d p A c us w (by omega) hW)
    have HK := Lib.hid (tie_new hz)
    have HF := Lib.hid (newR_parts r d p us)
    generalize newS r d p us = S0 at HN HK
    generalize newR r d p us = T0 at HRN HK HF
    clear hz hul
    go_enter Try.func11, Try.ntmps11
    go_wp2_with (first | ((with_reducible refine (known_any _).mono ?_); rintro e w1 ⟨rfl, hb⟩; replace hM := hM.step hb; clear hb) | ((with_reducible refine (HC.out _ hM.below).mono ?_); rintro e w1 ⟨A1, c1', rfl, hb⟩; replace hM := hM.newThing hb; clear hb) | ((with_reducible refine (config_in (wT_in hM (List.Mem.head _)) HU.out).mono ?_); rintro e w1 ⟨A2, c2, rfl, hb⟩; replace hM := hM.newThing hb; clear hb) | ((with_reducible refine (HN.out _ _ _ (winT_in hM (List.Mem.head _))).mono ?_); rintro e w1 ⟨g, rfl, hH⟩; obtain ⟨fp, hM2⟩ := (HasLine.frame hM hH).ex; clear hM hH; have hM := hM2; clear hM2) | ((with_reducible refine (HRN.out _ _ _ (wT_in hM (List.Mem.tail _ (List.Mem.tail _ (List.Mem.head _))))).mono ?_); rintro e w1 ⟨rfl, hb⟩; replace hM := hM.step hb; clear hb) | ((first | with_reducible refine at_load ?_ | ((with_reducible refine at_load_g ?_ ?_); (· rfl))); first | refine lc hM ?_ | refine ll hM ?_ | refine lp hM ?_) | ((with_reducible refine at_store ?_); first | (refine ls hM ?_; clear hM; intro wx hM) | (refine lw hM ?_; clear hM; intro wx hM) | (refine lt hM ?_; clear hM; intro wx hM)) | ((with_reducible refine at_alloc ?_); refine lz hM ?_; clear hM; intro gx wx hM) | ((with_reducible refine at_box ?_); refine lb hM ?_; clear hM; intro gx wx hM))
    obtain ⟨g9, hg9⟩ := hM.name1
    obtain ⟨g5, hg5⟩ := (hM.subL (List.sublist_cons_self _ _)).name1
    subst hg9 hg5
    have hM2 := turn_new (c2 := c1') (B := none) (C := none) (c0 := 0) (c1 := 0) ((hM.subL (L' := [_, _]) (List.Sublist.cons_cons _ (List.Sublist.cons_cons _ (List.nil_sublist _)))).subR (R' := [_, _]) (List.Sublist.cons_cons _ (List.Sublist.cons _ (List.Sublist.cons_cons _ (List.nil_sublist _))))) (UpdR.tail _ (UpdR.head _ _)) HF.out.1 HF.out.2.1 HF.out.2.2
    have M0 := Lib.hid hM2
    clear hM hM2 HC HN HRN
    go_loopw [10] (fun i wr => ∃ (k : Nat) (S : Ln) (T : RL) (v : RV) (fp : List Nat), k ≤ m ∧ k ≤ 15 ∧ i = .int .i64 (k : Nat) ∧ Hid (Tie (200 * k) S T) ∧ Mem [] w [⟨g9, 66, 13, refCs T v⟩, ⟨g5, 75, 3, #[.int .u8 (a : Int), .int .u8 (b : Int), .int .u8 (d1 : Int)]⟩] [lineT fp g S, refT T v] wr) (fun i _ => 15 - (intOf i).toNat)
    case atStart => exact ⟨0, S0, T0, _, _, by omega, by omega, rfl, HK, M0.out⟩
    case round =>
      obtain ⟨k, S, T, v, fp, hk, hk30, rfl, HS, hM⟩ := hrel
      clear M0
      by_cases hlt : k < m ∧ k < 15
      · obtain ⟨hkm, hk3⟩ := hlt
        have hkl : k < os.length := by have := HO.out.len; omega
        obtain ⟨gb, ob, rfl, hgl, _⟩ := HO.out.at_ (by omega)
        have HX := Lib.hid (fun w' (hb : Below w.heap.size w w') => (HO.out.keep hb).cell k hkl)
        have hok := HO.out.ok _ (List.getElem_mem hkl)
        obtain ⟨o, ho⟩ : ∃ o, o = os[k] := ⟨_, rfl⟩
        rw [← ho] at HX hok
        clear ho
        have hk0 : (0 : Int) ≤ (k : Int) := Int.natCast_nonneg _
        have hk1 : (k : Int) < (m : Int) := by omega
        have hk2 : (k : Int) < 15 := by omega
        have HD := Lib.hid (fun (L : List Ent) (fp : List Nat) w' (h : Mem [] w L [lineT fp g S, refT T v] w') => do_any o hok h HS.out (by omega))
        clear hok
        go_upto_region 9 with (first | ((first | with_reducible refine at_load ?_ | ((with_reducible refine at_load_g ?_ ?_); (· rfl))); first | refine lc hM ?_ | refine ll hM ?_ | refine lp hM ?_) | ((with_reducible refine at_store ?_); first | (refine ls hM ?_; clear hM; intro wx hM) | (refine lw hM ?_; clear hM; intro wx hM) | (refine lt hM ?_; clear hM; intro wx hM)) | ((with_reducible refine at_alloc ?_); refine lz hM ?_; clear hM; intro gx wx hM) | ((with_reducible refine at_box ?_); refine lb hM ?_; clear hM; intro gx wx hM))
        refine wp_region_allTM hM 10 (fun w' => ∃ L' R', Mem [] w (⟨g9, 66, 13, refCs T v⟩ :: L') R' w') (by kernel_rfl) ?_
        clear hM
        intro wd hM
        have hS : ∃ L' R', Mem [] w (⟨g9, 66, 13, refCs T v⟩ :: L') R' wd := ⟨_, _, hM⟩
        refine wpAllT_takes [0, 2, 3, 4, 1, 5] (by kernel_rfl) (fun _ _ _ _ _ h => h) hS (by kernel_rfl) ?_
        simp only [pickOps, List.filterMap_cons, List.filterMap_nil, List.getElem?_cons_zero, List.getElem?_cons_succ]
        repeat ((with_reducible apply wpHeld_step); (· rfl); (· (intro wq hSw; first | (go_simp; rfl) | ((obtain ⟨_, _, hM'⟩ := hSw; first | exact yields_load (C := fun _ => True) (ql hM') rfl | exact held_row (HX.out _ hM'.below))))); intro K hK; go_simp; (with_reducible refine hK _ ?_); clear hK K)
        refine wpHeld_nil ?_
        refine wpAllT_one 6 rfl (by kernel_rfl) ?_
        go_wp2_with fail
        refine (HD.out _ _ _ hM).mono ?_
        clear hM hS
        rintro e w1 ⟨S', T', fp', v', rfl, HT', hM⟩
        go_wp2_with fail
        have hS : ∃ L' R', Mem [] w (⟨g9, 66, 13, refCs T v⟩ :: L') R' w1 := ⟨_, _, hM⟩
        refine then_normal ⟨.inr hS, ?_⟩
        refine wpAllT_takes [7, 8] (by kernel_rfl) (fun _ _ _ _ _ h => h) hS (by kernel_rfl) ?_
        simp only [pickOps, List.filterMap_cons, List.filterMap_nil, List.getElem?_cons_zero, List.getElem?_cons_succ]
        repeat ((with_reducible apply wpHeld_step); (· rfl); (· (intro wq hSw; first | (go_simp; rfl) | (fail))); intro K hK; go_simp; (with_reducible refine hK _ ?_); clear hK K)
        refine wpHeld_nil ?_
        refine wpAllT_two 9 10 rfl rfl (by kernel_rfl) ?_ ?_
        · (with_reducible apply wpList_pure)
          · rfl
          · (go_simp; rfl)
          go_simp
          refine wpList_then ⟨.inr hS, ?_⟩
          refine wpAllT_one 10 rfl (by kernel_rfl) ?_
          refine lw hM ?_
          clear hM hS
          intro wy hM
          refine wpList_then ⟨.inl (by kernel_rfl), wpAllT_drop (by kernel_rfl) (wpAll_done (by kernel_rfl) ?_)⟩
          have HT2 := Lib.hid HT'
          clear HT'
          go_wp2_with (first | ((first | with_reducible refine at_load ?_ | ((with_reducible refine at_load_g ?_ ?_); (· rfl))); first | refine lc hM ?_ | refine ll hM ?_ | refine lp hM ?_) | ((with_reducible refine at_store ?_); first | (refine ls hM ?_; clear hM; intro wx hM) | (refine lw hM ?_; clear hM; intro wx hM) | (refine lt hM ?_; clear hM; intro wx hM)) | ((with_reducible refine at_alloc ?_); refine lz hM ?_; clear hM; intro gx wx hM) | ((with_reducible refine at_box ?_); refine lb hM ?_; clear hM; intro gx wx hM))
          exact ⟨⟨k + 1, S', T', v', fp', by omega, by omega, by go_num, by rw [show 200 * (k + 1) = 200 * k + 200 by omega]; exact HT2, hM⟩, by simp [intOf]; omega⟩
        · refine lw hM ?_
          clear hM hS
          intro wy hM
          refine wpList_then ⟨.inl (by kernel_rfl), wpAllT_drop (by kernel_rfl) ?_⟩
          refine wpAll_one 9 rfl (by kernel_rfl) ?_
          (with_reducible apply wpList_pure)
          · rfl
          · (go_simp; rfl)
          go_simp
          refine wpList_then (wpAll_done (by kernel_rfl) ?_)
          have HT2 := Lib.hid HT'
          clear HT'
          go_wp2_with (first | ((first | with_reducible refine at_load ?_ | ((with_reducible refine at_load_g ?_ ?_); (· rfl))); first | refine lc hM ?_ | refine ll hM ?_ | refine lp hM ?_) | ((with_reducible refine at_store ?_); first | (refine ls hM ?_; clear hM; intro wx hM) | (refine lw hM ?_; clear hM; intro wx hM) | (refine lt hM ?_; clear hM; intro wx hM)) | ((with_reducible refine at_alloc ?_); refine lz hM ?_; clear hM; intro gx wx hM) | ((with_reducible refine at_box ?_); refine lb hM ?_; clear hM; intro gx wx hM))
          exact ⟨⟨k + 1, S', T', v', fp', by omega, by omega, by go_num, by rw [show 200 * (k + 1) = 200 * k + 200 by omega]; exact HT2, hM⟩, by simp [intOf]; omega⟩
      · have hT0 := HS.out.mono (C := 3000) (by omega)
        clear HS
        have HB2 : k = m ∨ (k < m ∧ k = 15) := by omega
        rcases HB2 with h | ⟨h, h2⟩
        · subst h
          clear hlt
          have hn1 := hT0.fit.ok.now1
          have hn2 := hT0.fit.ok.now2
          have hnow : T.now = S.now := hT0.rel.now
          have HCL := Lib.hid (fun (L : List Ent) w' (h : Mem [] w L [lineT fp g S, refT T v] w') => clone_in h (List.Mem.head _) hT0 (by omega))
          have wq1 : IntKind.i64.wrap ((a : Int) + (b : Int)) = (a : Int) + (b : Int) := IntWalk.i64_in _ ⟨by omega, by omega⟩
          have wq2 : IntKind.i64.wrap ((a : Int) + (b : Int) + (d1 : Int)) = (a : Int) + (b : Int) + (d1 : Int) := IntWalk.i64_in _ ⟨by omega, by omega⟩
          have wq3 : IntKind.i64.wrap (10000000 - S.now) = 10000000 - S.now := IntWalk.i64_in _ ⟨by omega, by omega⟩
          have wa : IntKind.i64.wrap (a : Int) = (a : Int) := IntWalk.i64_in _ ⟨by omega, by omega⟩
          have wb : IntKind.i64.wrap (b : Int) = (b : Int) := IntWalk.i64_in _ ⟨by omega, by omega⟩
          have wd : IntKind.i64.wrap (d1 : Int) = (d1 : Int) := IntWalk.i64_in _ ⟨by omega, by omega⟩
          by_cases hbig : 10000000 - S.now < (a : Int) + (b : Int) + (d1 : Int)
          · have t1 : decide (10000000 - S.now < (a : Int) + (b : Int) + (d1 : Int)) = true := decide_eq_true hbig
            clear hT0 hn1 hn2 hbig ha hb hd1
            go_upto_region 13 with (first | ((with_reducible refine (HCL.out _ _ hM).mono ?_); clear hM; rintro e w1 ⟨go, fo, rfl, hM⟩) | ((first | with_reducible refine at_load ?_ | ((with_reducible refine at_load_g ?_ ?_); (· rfl))); first | refine lc hM ?_ | refine ll hM ?_ | refine lp hM ?_) | ((with_reducible refine at_store ?_); first | (refine ls hM ?_; clear hM; intro wx hM) | (refine lw hM ?_; clear hM; intro wx hM) | (refine lt hM ?_; clear hM; intro wx hM)) | ((with_reducible refine at_alloc ?_); refine lz hM ?_; clear hM; intro gx wx hM) | ((with_reducible refine at_box ?_); refine lb hM ?_; clear hM; intro gx wx hM))
            refine Go.Bul.wp_region_class (Mem _ w _ _) (by kernel_rfl) (by kernel_rfl) hM.drew ?_
            repeat ((with_reducible refine wpQuiet_step (fun K hK => ?_)); (first | ((first | ((with_reducible refine quiet_some ?_ ?_); (· rfl)) | ((with_reducible refine quiet_wanted ?_ ?_); (· rfl))); apply Exists.intro; refine ⟨fun w' hM' => ?_, ?_⟩; (· first | (go_simp; rfl) | exact qc hM' | fail | exact ql hM' | exact qp hM')) | ((with_reducible refine quiet_unwanted ?_ ?_); (· rfl))); go_simp; (with_reducible refine hK _ ?_); clear hK K)
            refine wpQuiet_nil ?_
            intro wx hM
            go_wp2_with (first | ((first | with_reducible refine at_load ?_ | ((with_reducible refine at_load_g ?_ ?_); (· rfl))); first | refine lc hM ?_ | refine ll hM ?_ | refine lp hM ?_) | ((with_reducible refine at_store ?_); first | (refine ls hM ?_; clear hM; intro wx hM) | (refine lw hM ?_; clear hM; intro wx hM) | (refine lt hM ?_; clear hM; intro wx hM)) | ((with_reducible refine at_alloc ?_); refine lz hM ?_; clear hM; intro gx wx hM) | ((with_reducible refine at_box ?_); refine lb hM ?_; clear hM; intro gx wx hM))
            go_ret
            exact ⟨rfl, Mem.below hM⟩
          · have t1 : decide (10000000 - S.now < (a : Int) + (b : Int) + (d1 : Int)) = false := decide_eq_false hbig
            have nA := passN_now a S
            have nB := passN_now b (passN a S)
            have hTa := tie_minutes hT0 a (by omega)
            have hTb := tie_minutes hTa b (by omega)
            have hTd := tie_minutes hTb d1 (by omega)
            have hTl := tie_minutes hT0 (a + b + d1) (by omega)
            have HL := Lib.hid (fun (L : List Ent) (X : Thing) (R : List Thing) (fp : List Nat) w' (h : Mem [] w L (X :: lineT fp g S :: R) w') => adv_2 (a + b + d1) h hT0 (by omega))
            have ec : ((a + b + d1 : Nat) : Int) = (a : Int) + (b : Int) + (d1 : Int) := by omega
            rw [ec] at HL
            have HA := Lib.hid (fun (L : List Ent) (R : List Thing) (fp : List Nat) (go : Nat) w' (h : Mem [] w L (lineT fp go S :: R) w') => adv_1 a h hT0 (by omega))
            have HB := Lib.hid (fun (L : List Ent) (R : List Thing) (fp : List Nat) (go : Nat) w' (h : Mem [] w L (lineT fp go (passN a S) :: R) w') => adv_1 b h hTa (by omega))
            have HD2 := Lib.hid (fun (L : List Ent) (R : List Thing) (fp : List Nat) (go : Nat) w' (h : Mem [] w L (lineT fp go (passN b (passN a S)) :: R) w') => adv_1 d1 h hTb (by omega))
            have HE := Lib.hid (fun (L : List Ent) (R : List Thing) (fp fq : List Nat) (go : Nat) w' (h : Mem [] w L (lineT fq go (passN d1 (passN b (passN a S))) :: lineT fp g (passN (a + b + d1) S) :: R) w') => equal_in h (List.Mem.tail _ (List.Mem.head _)) (List.Mem.head _) hTl hTd (by omega) (by omega))
            have e2 : passN b (passN a S) = passN (a + b) S := passN_add S a b
            have e3 : passN d1 (passN (a + b) S) = passN (a + b + d1) S := passN_add S (a + b) d1
            rw [e2, e3, eqLn_refl] at HE
            rw [e2, e3] at HD2
            rw [e2] at HB
            generalize hSl : passN (a + b + d1) S = Sl at HL HD2 HE
            generalize hSb : passN (a + b) S = Sb at HB HD2
            generalize hSa : passN a S = Sa at HA HB
            clear hT0 hn1 hn2 hbig ha hb hd1 nA nB hTa hTb hTd hTl ec hSl hSb hSa e2 e3
            go_upto_region 13 with (first | ((with_reducible refine (HCL.out _ _ hM).mono ?_); clear hM; rintro e w1 ⟨go, fo, rfl, hM⟩) | ((first | with_reducible refine at_load ?_ | ((with_reducible refine at_load_g ?_ ?_); (· rfl))); first | refine lc hM ?_ | refine ll hM ?_ | refine lp hM ?_) | ((with_reducible refine at_store ?_); first | (refine ls hM ?_; clear hM; intro wx hM) | (refine lw hM ?_; clear hM; intro wx hM) | (refine lt hM ?_; clear hM; intro wx hM)) | ((with_reducible refine at_alloc ?_); refine lz hM ?_; clear hM; intro gx wx hM) | ((with_reducible refine at_box ?_); refine lb hM ?_; clear hM; intro gx wx hM))
            refine Go.Bul.wp_region_class (Mem _ w _ _) (by kernel_rfl) (by kernel_rfl) hM.drew ?_
            repeat ((with_reducible refine wpQuiet_step (fun K hK => ?_)); (first | ((first | ((with_reducible refine quiet_some ?_ ?_); (· rfl)) | ((with_reducible refine quiet_wanted ?_ ?_); (· rfl))); apply Exists.intro; refine ⟨fun w' hM' => ?_, ?_⟩; (· first | (go_simp; rfl) | exact qc hM' | fail | exact ql hM' | exact qp hM')) | ((with_reducible refine quiet_unwanted ?_ ?_); (· rfl))); go_simp; (with_reducible refine hK _ ?_); clear hK K)
            refine wpQuiet_nil ?_
            intro wx hM
            go_wp2_with (first | ((with_reducible refine (HL.out _ _ _ _ _ hM).mono ?_); clear hM; rintro e w1 ⟨f1, rfl, hM⟩) | ((with_reducible refine (HA.out _ _ _ _ _ hM).mono ?_); clear hM; rintro e w1 ⟨f2, rfl, hM⟩) | ((with_reducible refine (HB.out _ _ _ _ _ hM).mono ?_); clear hM; rintro e w1 ⟨f3, rfl, hM⟩) | ((with_reducible refine (HD2.out _ _ _ _ _ hM).mono ?_); clear hM; rintro e w1 ⟨f4, rfl, hM⟩) | ((with_reducible refine (HE.out _ _ _ _ _ _ hM).mono ?_); rintro e w1 ⟨rfl, hb⟩; replace hM := hM.step hb; clear hb) | ((first | with_reducible refine at_load ?_ | ((with_reducible refine at_load_g ?_ ?_); (· rfl))); first | refine lc hM ?_ | refine ll hM ?_ | refine lp hM ?_) | ((with_reducible refine at_store ?_); first | (refine ls hM ?_; clear hM; intro wx hM) | (refine lw hM ?_; clear hM; intro wx hM) | (refine lt hM ?_; clear hM; intro wx hM)) | ((with_reducible refine at_alloc ?_); refine lz hM ?_; clear hM; intro gx wx hM) | ((with_reducible refine at_box ?_); refine lb hM ?_; clear hM; intro gx wx hM))
            go_ret
            exact ⟨rfl, Mem.below hM⟩
        · subst h2
          have hk1 : ((15 : Nat) : Int) < (m : Int) := by omega
          clear hlt
          have hn1 := hT0.fit.ok.now1
          have hn2 := hT0.fit.ok.now2
          have hnow : T.now = S.now := hT0.rel.now
          have HCL := Lib.hid (fun (L : List Ent) w' (h : Mem [] w L [lineT fp g S, refT T v] w') => clone_in h (List.Mem.head _) hT0 (by omega))
          have wq1 : IntKind.i64.wrap ((a : Int) + (b : Int)) = (a : Int) + (b : Int) := IntWalk.i64_in _ ⟨by omega, by omega⟩
          have wq2 : IntKind.i64.wrap ((a : Int) + (b : Int) + (d1 : Int)) = (a : Int) + (b : Int) + (d1 : Int) := IntWalk.i64_in _ ⟨by omega, by omega⟩
          have wq3 : IntKind.i64.wrap (10000000 - S.now) = 10000000 - S.now := IntWalk.i64_in _ ⟨by omega, by omega⟩
          have wa : IntKind.i64.wrap (a : Int) = (a : Int) := IntWalk.i64_in _ ⟨by omega, by omega⟩
          have wb : IntKind.i64.wrap (b : Int) = (b : Int) := IntWalk.i64_in _ ⟨by omega, by omega⟩
          have wd : IntKind.i64.wrap (d1 : Int) = (d1 : Int) := IntWalk.i64_in _ ⟨by omega, by omega⟩
          by_cases hbig : 10000000 - S.now < (a : Int) + (b : Int) + (d1 : Int)
          · have t1 : decide (10000000 - S.now < (a : Int) + (b : Int) + (d1 : Int)) = true := decide_eq_true hbig
            clear hT0 hn1 hn2 hbig ha hb hd1
            go_upto_region 13 with (first | ((with_reducible refine (HCL.out _ _ hM).mono ?_); clear hM; rintro e w1 ⟨go, fo, rfl, hM⟩) | ((first | with_reducible refine at_load ?_ | ((with_reducible refine at_load_g ?_ ?_); (· rfl))); first | refine lc hM ?_ | refine ll hM ?_ | refine lp hM ?_) | ((with_reducible refine at_store ?_); first | (refine ls hM ?_; clear hM; intro wx hM) | (refine lw hM ?_; clear hM; intro wx hM) | (refine lt hM ?_; clear hM; intro wx hM)) | ((with_reducible refine at_alloc ?_); refine lz hM ?_; clear hM; intro gx wx hM) | ((with_reducible refine at_box ?_); refine lb hM ?_; clear hM; intro gx wx hM))
            refine Go.Bul.wp_region_class (Mem _ w _ _) (by kernel_rfl) (by kernel_rfl) hM.drew ?_
            repeat ((with_reducible refine wpQuiet_step (fun K hK => ?_)); (first | ((first | ((with_reducible refine quiet_some ?_ ?_); (· rfl)) | ((with_reducible refine quiet_wanted ?_ ?_); (· rfl))); apply Exists.intro; refine ⟨fun w' hM' => ?_, ?_⟩; (· first | (go_simp; rfl) | exact qc hM' | fail | exact ql hM' | exact qp hM')) | ((with_reducible refine quiet_unwanted ?_ ?_); (· rfl))); go_simp; (with_reducible refine hK _ ?_); clear hK K)
            refine wpQuiet_nil ?_
            intro wx hM
            go_wp2_with (first | ((first | with_reducible refine at_load ?_ | ((with_reducible refine at_load_g ?_ ?_); (· rfl))); first | refine lc hM ?_ | refine ll hM ?_ | refine lp hM ?_) | ((with_reducible refine at_store ?_); first | (refine ls hM ?_; clear hM; intro wx hM) | (refine lw hM ?_; clear hM; intro wx hM) | (refine lt hM ?_; clear hM; intro wx hM)) | ((with_reducible refine at_alloc ?_); refine lz hM ?_; clear hM; intro gx wx hM) | ((with_reducible refine at_box ?_); refine lb hM ?_; clear hM; intro gx wx hM))
            go_ret
            exact ⟨rfl, Mem.below hM⟩
          · have t1 : decide (10000000 - S.now < (a : Int) + (b : Int) + (d1 : Int)) = false := decide_eq_false hbig
            have nA := passN_now a S
            have nB := passN_now b (passN a S)
            have hTa := tie_minutes hT0 a (by omega)
            have hTb := tie_minutes hTa b (by omega)
            have hTd := tie_minutes hTb d1 (by omega)
            have hTl := tie_minutes hT0 (a + b + d1) (by omega)
            have HL := Lib.hid (fun (L : List Ent) (X : Thing) (R : List Thing) (fp : List Nat) w' (h : Mem [] w L (X :: lineT fp g S :: R) w') => adv_2 (a + b + d1) h hT0 (by omega))
            have ec : ((a + b + d1 : Nat) : Int) = (a : Int) + (b : Int) + (d1 : Int) := by omega
            rw [ec] at HL
            have HA := Lib.hid (fun (L : List Ent) (R : List Thing) (fp : List Nat) (go : Nat) w' (h : Mem [] w L (lineT fp go S :: R) w') => adv_1 a h hT0 (by omega))
            have HB := Lib.hid (fun (L : List Ent) (R : List Thing) (fp : List Nat) (go : Nat) w' (h : Mem [] w L (lineT fp go (passN a S) :: R) w') => adv_1 b h hTa (by omega))
            have HD2 := Lib.hid (fun (L : List Ent) (R : List Thing) (fp : List Nat) (go : Nat) w' (h : Mem [] w L (lineT fp go (passN b (passN a S)) :: R) w') => adv_1 d1 h hTb (by omega))
            have HE := Lib.hid (fun (L : List Ent) (R : List Thing) (fp fq : List Nat) (go : Nat) w' (h : Mem [] w L (lineT fq go (passN d1 (passN b (passN a S))) :: lineT fp g (passN (a + b + d1) S) :: R) w') => equal_in h (List.Mem.tail _ (List.Mem.head _)) (List.Mem.head _) hTl hTd (by omega) (by omega))
            have e2 : passN b (passN a S) = passN (a + b) S := passN_add S a b
            have e3 : passN d1 (passN (a + b) S) = passN (a + b + d1) S := passN_add S (a + b) d1
            rw [e2, e3, eqLn_refl] at HE
            rw [e2, e3] at HD2
            rw [e2] at HB
            generalize hSl : passN (a + b + d1) S = Sl at HL HD2 HE
            generalize hSb : passN (a + b) S = Sb at HB HD2
            generalize hSa : passN a S = Sa at HA HB
            clear hT0 hn1 hn2 hbig ha hb hd1 nA nB hTa hTb hTd hTl ec hSl hSb hSa e2 e3
            go_upto_region 13 with (first | ((with_reducible refine (HCL.out _ _ hM).mono ?_); clear hM; rintro e w1 ⟨go, fo, rfl, hM⟩) | ((first | with_reducible refine at_load ?_ | ((with_reducible refine at_load_g ?_ ?_); (· rfl))); first | refine lc hM ?_ | refine ll hM ?_ | refine lp hM ?_) | ((with_reducible refine at_store ?_); first | (refine ls hM ?_; clear hM; intro wx hM) | (refine lw hM ?_; clear hM; intro wx hM) | (refine lt hM ?_; clear hM; intro wx hM)) | ((with_reducible refine at_alloc ?_); refine lz hM ?_; clear hM; intro gx wx hM) | ((with_reducible refine at_box ?_); refine lb hM ?_; clear hM; intro gx wx hM))
            refine Go.Bul.wp_region_class (Mem _ w _ _) (by kernel_rfl) (by kernel_rfl) hM.drew ?_
            repeat ((with_reducible refine wpQuiet_step (fun K hK => ?_)); (first | ((first | ((with_reducible refine quiet_some ?_ ?_); (· rfl)) | ((with_reducible refine quiet_wanted ?_ ?_); (· rfl))); apply Exists.intro; refine ⟨fun w' hM' => ?_, ?_⟩; (· first | (go_simp; rfl) | exact qc hM' | fail | exact ql hM' | exact qp hM')) | ((with_reducible refine quiet_unwanted ?_ ?_); (· rfl))); go_simp; (with_reducible refine hK _ ?_); clear hK K)
            refine wpQuiet_nil ?_
            intro wx hM
            go_wp2_with (first | ((with_reducible refine (HL.out _ _ _ _ _ hM).mono ?_); clear hM; rintro e w1 ⟨f1, rfl, hM⟩) | ((with_reducible refine (HA.out _ _ _ _ _ hM).mono ?_); clear hM; rintro e w1 ⟨f2, rfl, hM⟩) | ((with_reducible refine (HB.out _ _ _ _ _ hM).mono ?_); clear hM; rintro e w1 ⟨f3, rfl, hM⟩) | ((with_reducible refine (HD2.out _ _ _ _ _ hM).mono ?_); clear hM; rintro e w1 ⟨f4, rfl, hM⟩) | ((with_reducible refine (HE.out _ _ _ _ _ _ hM).mono ?_); rintro e w1 ⟨rfl, hb⟩; replace hM := hM.step hb; clear hb) | ((first | with_reducible refine at_load ?_ | ((with_reducible refine at_load_g ?_ ?_); (· rfl))); first | refine lc hM ?_ | refine ll hM ?_ | refine lp hM ?_) | ((with_reducible refine at_store ?_); first | (refine ls hM ?_; clear hM; intro wx hM) | (refine lw hM ?_; clear hM; intro wx hM) | (refine lt hM ?_; clear hM; intro wx hM)) | ((with_reducible refine at_alloc ?_); refine lz hM ?_; clear hM; intro gx wx hM) | ((with_reducible refine at_box ?_); refine lb hM ?_; clear hM; intro gx wx hM))
            go_ret
            exact ⟨rfl, Mem.below hM⟩
  · obtain ⟨z, hzz⟩ : ∃ z, chk r d p us = z := ⟨_, rfl⟩
    have c1 : (z != 0) = true := by rw [← hzz]; simpa using hz
    have HN := Lib.hid (fun (A : Option Addr) (c : Nat) w hW => new_no (w := w) r d p A us.length c us hW (by omega) hz)
    rw [hzz] at HN
    clear hz hzz hul
    go_enter Try.func11, Try.ntmps11
    go_wp2_with (first | ((with_reducible refine (known_any _).mono ?_); rintro e w1 ⟨rfl, hb⟩; replace hM := hM.step hb; clear hb) | ((with_reducible refine (HC.out _ hM.below).mono ?_); rintro e w1 ⟨A1, c1', rfl, hb⟩; replace hM := hM.newThing hb; clear hb) | ((with_reducible refine (config_in (wT_in hM (List.Mem.head _)) HU.out).mono ?_); rintro e w1 ⟨A2, c2, rfl, hb⟩; replace hM := hM.newThing hb; clear hb) | ((with_reducible refine (HN.out _ _ _ (winT_in hM (List.Mem.head _))).mono ?_); rintro e w1 ⟨rfl, hb⟩; replace hM := hM.step hb; clear hb) | ((first | with_reducible refine at_load ?_ | ((with_reducible refine at_load_g ?_ ?_); (· rfl))); first | refine lc hM ?_ | refine ll hM ?_ | refine lp hM ?_) | ((with_reducible refine at_store ?_); first | (refine ls hM ?_; clear hM; intro wx hM) | (refine lw hM ?_; clear hM; intro wx hM) | (refine lt hM ?_; clear hM; intro wx hM)) | ((with_reducible refine at_alloc ?_); refine lz hM ?_; clear hM; intro gx wx hM) | ((with_reducible refine at_box ?_); refine lb hM ?_; clear hM; intro gx wx hM))
    go_ret
    exact ⟨rfl, hM.below⟩
end Go.Proofs.Ytenflgbaibjeoaa
namespace Go.Lin
open Go
theorem send_out (c : Nat) (S : Ln) (h : S.e0.wait.length ≤ 1000000) : ∃ e S', sendE S 0 1 = e ∧ sendS S 0 [c] = S' ∧ ((S.up = true ∧ e = 0 ∧ S'.up = true ∧ S'.e0.wait = S.e0.wait ++ [c]) ∨ (S.up = false ∧ e = 26 ∧ S' = S)) := by
  refine ⟨_, _, rfl, rfl, ?_⟩
  cases hup : S.up with
  | true =>
    have e : sendE S 0 1 = 0 := by
      unfold sendE
      rw [if_neg (by simp), if_neg (by simp [hup]), if_neg (by rw [if_pos rfl]; omega)]
    refine .inl ⟨rfl, e, ?_⟩
    unfold sendS
    rw [show ([c] : List Nat).length = 1 from rfl, e, if_pos rfl, if_pos rfl]
    exact ⟨hup, rfl⟩
  | false =>
    have e : sendE S 0 1 = 26 := by
      unfold sendE
      rw [if_neg (by simp), if_pos hup]
    refine .inr ⟨rfl, e, ?_⟩
    unfold sendS
    rw [show ([c] : List Nat).length = 1 from rfl, e, if_neg (by decide)]
end Go.Lin
namespace Go.Proofs.Ytenflgbaibjeoaa
open Go Go.RowKit Go.Bul Go.Thg Go.Lin
theorem two_lines2 {G : List Nat} {w0 w : World} {L : List Ent} {R : List Thing} {a b : List Nat} {p q : Nat} {S Z : Ln} (_ : Mem G w0 L (lineT a p S :: lineT b q Z :: R) w) : ∃ x y, x = p ∧ y = q := ⟨_, _, rfl, rfl⟩
section
variable {w w0 : World} {G : List Nat} {L : List Ent} {R : List Thing} {S S' : Ln} {T : RL} {fp : List Nat} {p B : Nat} {e : Int}
theorem send_at (t : ByteArray) (c : Nat) (ht : nums t = [c]) (hs : t.size = 1) (hM : Mem G w0 L (lineT fp p S :: R) w) (hT : Tie B S T) (hB : B ≤ 100000) (h1 : sendE S 0 1 = e) (h2 : sendS S 0 [c] = S') :
    Calls Try.prog 16 #[.pointer (some ⟨p, 0, none⟩), .int .i64 0, .string t] w fun e' w' => ∃ fp', e' = .returned (.int .i64 e) ∧ Mem G w0 L (lineT fp' p S' :: R) w' := by
  have hl := hT.fit.len
  have h := lsend_in 0 t hM (by omega)
  rw [ht, hs, h1, h2] at h
  exact h
theorem send_at3 (t : ByteArray) (c : Nat) (ht : nums t = [c]) (hs : t.size = 1) {X Y : Thing} (hM : Mem G w0 L (X :: Y :: lineT fp p S :: R) w) (hT : Tie B S T) (hB : B ≤ 100000) (h1 : sendE S 0 1 = e) (h2 : sendS S 0 [c] = S') :
    Calls Try.prog 16 #[.pointer (some ⟨p, 0, none⟩), .int .i64 0, .string t] w fun e' w' => ∃ fp', e' = .returned (.int .i64 e) ∧ Mem G w0 L (X :: Y :: lineT fp' p S' :: R) w' := by
  refine (send_at t c ht hs (Mem.toFront [_, _] hM) hT hB h1 h2).mono ?_
  rintro e' w' ⟨fp', rfl, h⟩
  exact ⟨fp', rfl, Mem.fromFront [_, _] h⟩
end
attribute [local irreducible] HasLine newS chk connected
set_option maxRecDepth 20000 in
set_option maxHeartbeats 40000000 in
theorem clones_any (r d p : Int) (A : Option Addr) (n c : Nat) (ws : List Win) (B : Option Addr) (m c3 : Nat) (os : List OpR) (more : OpR) (w : World) (hI : WinsIn w A n c ws) (hO : OpsIn w B m os) (hmo : OpOk more) :
    Calls Try.prog 12 #[cfgV r d p A n c, .slice B m c3, .agg (opCs more)] w fun e w' => e = .returned (.bool true) ∧ Below w.heap.size w w' := by
  have hM := Mem.start [] w
  have HC := Lib.hid (fun w' hb => cut_in (r := r) (d := d) (p := p) (hI.keep (w' := w') hb))
  obtain ⟨us, hus⟩ : ∃ us, ws.take 40 = us := ⟨_, rfl⟩
  have hul : us.length ≤ 40 := by rw [← hus, List.length_take]; omega
  rw [hus] at HC
  have HU := Lib.hid hul
  clear hus hI
  have HO := Lib.hid hO
  have HMO := Lib.hid hmo
  clear hO hmo
  by_cases hz : chk r d p us = 0
  · have HN := Lib.hid (fun (A : Option Addr) (c : Nat) w hW => new_any (w := w) r d p A us.length c us hW (by omega) hz)
    have HRN := Lib.hid (fun (A : Option Addr) (c : Nat) w hW => rnew_any r d p A c us w (by omega) hW)
    have HK := Lib.hid (tie_new hz)
    have HF := Lib.hid (newR_parts r d p us)
    generalize newS r d p us = S0 at HN HK
    generalize newR r d p us = T0 at HRN HK HF
    clear hz hul
    go_enter Try.func12, Try.ntmps12
    go_wp2_with (first | ((with_reducible refine (known_any _).mono ?_); rintro e w1 ⟨rfl, hb⟩; replace hM := hM.step hb; clear hb) | ((with_reducible refine (HC.out _ hM.below).mono ?_); rintro e w1 ⟨A1, c1', rfl, hb⟩; replace hM := hM.newThing hb; clear hb) | ((with_reducible refine (config_in (wT_in hM (List.Mem.head _)) HU.out).mono ?_); rintro e w1 ⟨A2, c2, rfl, hb⟩; replace hM := hM.newThing hb; clear hb) | ((with_reducible refine (HN.out _ _ _ (winT_in hM (List.Mem.head _))).mono ?_); rintro e w1 ⟨g, rfl, hH⟩; obtain ⟨fp, hM2⟩ := (HasLine.frame hM hH).ex; clear hM hH; have hM := hM2; clear hM2) | ((with_reducible refine (HRN.out _ _ _ (wT_in hM (List.Mem.tail _ (List.Mem.tail _ (List.Mem.head _))))).mono ?_); rintro e w1 ⟨rfl, hb⟩; replace hM := hM.step hb; clear hb) | ((first | with_reducible refine at_load ?_ | ((with_reducible refine at_load_g ?_ ?_); (· rfl))); first | refine lc hM ?_ | refine ll hM ?_ | refine lp hM ?_) | ((with_reducible refine at_store ?_); first | (refine ls hM ?_; clear hM; intro wx hM) | (refine lw hM ?_; clear hM; intro wx hM) | (refine lt hM ?_; clear hM; intro wx hM)) | ((with_reducible refine at_alloc ?_); refine lz hM ?_; clear hM; intro gx wx hM) | ((with_reducible refine at_box ?_); refine lb hM ?_; clear hM; intro gx wx hM))
    obtain ⟨g9, hg9⟩ := hM.name1
    obtain ⟨g5, hg5⟩ := (hM.subL (List.sublist_cons_self _ _)).name1
    subst hg9 hg5
    have hM2 := turn_new (c2 := c1') (B := none) (C := none) (c0 := 0) (c1 := 0) ((hM.subL (L' := [_, _]) (List.Sublist.cons_cons _ (List.Sublist.cons_cons _ (List.nil_sublist _)))).subR (R' := [_, _]) (List.Sublist.cons_cons _ (List.Sublist.cons _ (List.Sublist.cons_cons _ (List.nil_sublist _))))) (UpdR.tail _ (UpdR.head _ _)) HF.out.1 HF.out.2.1 HF.out.2.2
    have M0 := Lib.hid hM2
    clear hM hM2 HC HN HRN
    go_loopw [10] (fun i wr => ∃ (k : Nat) (S : Ln) (T : RL) (v : RV) (fp : List Nat), k ≤ m ∧ k ≤ 15 ∧ i = .int .i64 (k : Nat) ∧ Hid (Tie (200 * k) S T) ∧ Mem [] w [⟨g9, 66, 13, refCs T v⟩, ⟨g5, 52, 4, opCs more⟩] [lineT fp g S, refT T v] wr) (fun i _ => 15 - (intOf i).toNat)
    case atStart => exact ⟨0, S0, T0, _, _, by omega, by omega, rfl, HK, M0.out⟩
    case round =>
      obtain ⟨k, S, T, v, fp, hk, hk30, rfl, HS, hM⟩ := hrel
      clear M0
      by_cases hlt : k < m ∧ k < 15
      · obtain ⟨hkm, hk3⟩ := hlt
        have hkl : k < os.length := by have := HO.out.len; omega
        obtain ⟨gb, ob, rfl, hgl, _⟩ := HO.out.at_ (by omega)
        have HX := Lib.hid (fun w' (hb : Below w.heap.size w w') => (HO.out.keep hb).cell k hkl)
        have hok := HO.out.ok _ (List.getElem_mem hkl)
        obtain ⟨o, ho⟩ : ∃ o, o = os[k] := ⟨_, rfl⟩
        rw [← ho] at HX hok
        clear ho
        have hk0 : (0 : Int) ≤ (k : Int) := Int.natCast_nonneg _
        have hk1 : (k : Int) < (m : Int) := by omega
        have hk2 : (k : Int) < 15 := by omega
        have HD := Lib.hid (fun (L : List Ent) (fp : List Nat) w' (h : Mem [] w L [lineT fp g S, refT T v] w') => do_any o hok h HS.out (by omega))
        clear hok
        go_upto_region 9 with (first | ((first | with_reducible refine at_load ?_ | ((with_reducible refine at_load_g ?_ ?_); (· rfl))); first | refine lc hM ?_ | refine ll hM ?_ | refine lp hM ?_) | ((with_reducible refine at_store ?_); first | (refine ls hM ?_; clear hM; intro wx hM) | (refine lw hM ?_; clear hM; intro wx hM) | (refine lt hM ?_; clear hM; intro wx hM)) | ((with_reducible refine at_alloc ?_); refine lz hM ?_; clear hM; intro gx wx hM) | ((with_reducible refine at_box ?_); refine lb hM ?_; clear hM; intro gx wx hM))
        refine wp_region_allTM hM 10 (fun w' => ∃ L' R', Mem [] w (⟨g9, 66, 13, refCs T v⟩ :: L') R' w') (by kernel_rfl) ?_
        clear hM
        intro wd hM
        have hS : ∃ L' R', Mem [] w (⟨g9, 66, 13, refCs T v⟩ :: L') R' wd := ⟨_, _, hM⟩
        refine wpAllT_takes [0, 2, 3, 4, 1, 5] (by kernel_rfl) (fun _ _ _ _ _ h => h) hS (by kernel_rfl) ?_
        simp only [pickOps, List.filterMap_cons, List.filterMap_nil, List.getElem?_cons_zero, List.getElem?_cons_succ]
        repeat ((with_reducible apply wpHeld_step); (· rfl); (· (intro wq hSw; first | (go_simp; rfl) | ((obtain ⟨_, _, hM'⟩ := hSw; first | exact yields_load (C := fun _ => True) (ql hM') rfl | exact held_row (HX.out _ hM'.below))))); intro K hK; go_simp; (with_reducible refine hK _ ?_); clear hK K)
        refine wpHeld_nil ?_
        refine wpAllT_one 6 rfl (by kernel_rfl) ?_
        go_wp2_with fail
        refine (HD.out _ _ _ hM).mono ?_
        clear hM hS
        rintro e w1 ⟨S', T', fp', v', rfl, HT', hM⟩
        go_wp2_with fail
        have hS : ∃ L' R', Mem [] w (⟨g9, 66, 13, refCs T v⟩ :: L') R' w1 := ⟨_, _, hM⟩
        refine then_normal ⟨.inr hS, ?_⟩
        refine wpAllT_takes [7, 8] (by kernel_rfl) (fun _ _ _ _ _ h => h) hS (by kernel_rfl) ?_
        simp only [pickOps, List.filterMap_cons, List.filterMap_nil, List.getElem?_cons_zero, List.getElem?_cons_succ]
        repeat ((with_reducible apply wpHeld_step); (· rfl); (· (intro wq hSw; first | (go_simp; rfl) | (fail))); intro K hK; go_simp; (with_reducible refine hK _ ?_); clear hK K)
        refine wpHeld_nil ?_
        refine wpAllT_two 9 10 rfl rfl (by kernel_rfl) ?_ ?_
        · (with_reducible apply wpList_pure)
          · rfl
          · (go_simp; rfl)
          go_simp
          refine wpList_then ⟨.inr hS, ?_⟩
          refine wpAllT_one 10 rfl (by kernel_rfl) ?_
          refine lw hM ?_
          clear hM hS
          intro wy hM
          refine wpList_then ⟨.inl (by kernel_rfl), wpAllT_drop (by kernel_rfl) (wpAll_done (by kernel_rfl) ?_)⟩
          have HT2 := Lib.hid HT'
          clear HT'
          go_wp2_with (first | ((first | with_reducible refine at_load ?_ | ((with_reducible refine at_load_g ?_ ?_); (· rfl))); first | refine lc hM ?_ | refine ll hM ?_ | refine lp hM ?_) | ((with_reducible refine at_store ?_); first | (refine ls hM ?_; clear hM; intro wx hM) | (refine lw hM ?_; clear hM; intro wx hM) | (refine lt hM ?_; clear hM; intro wx hM)) | ((with_reducible refine at_alloc ?_); refine lz hM ?_; clear hM; intro gx wx hM) | ((with_reducible refine at_box ?_); refine lb hM ?_; clear hM; intro gx wx hM))
          exact ⟨⟨k + 1, S', T', v', fp', by omega, by omega, by go_num, by rw [show 200 * (k + 1) = 200 * k + 200 by omega]; exact HT2, hM⟩, by simp [intOf]; omega⟩
        · refine lw hM ?_
          clear hM hS
          intro wy hM
          refine wpList_then ⟨.inl (by kernel_rfl), wpAllT_drop (by kernel_rfl) ?_⟩
          refine wpAll_one 9 rfl (by kernel_rfl) ?_
          (with_reducible apply wpList_pure)
          · rfl
          · (go_simp; rfl)
          go_simp
          refine wpList_then (wpAll_done (by kernel_rfl) ?_)
          have HT2 := Lib.hid HT'
          clear HT'
          go_wp2_with (first | ((first | with_reducible refine at_load ?_ | ((with_reducible refine at_load_g ?_ ?_); (· rfl))); first | refine lc hM ?_ | refine ll hM ?_ | refine lp hM ?_) | ((with_reducible refine at_store ?_); first | (refine ls hM ?_; clear hM; intro wx hM) | (refine lw hM ?_; clear hM; intro wx hM) | (refine lt hM ?_; clear hM; intro wx hM)) | ((with_reducible refine at_alloc ?_); refine lz hM ?_; clear hM; intro gx wx hM) | ((with_reducible refine at_box ?_); refine lb hM ?_; clear hM; intro gx wx hM))
          exact ⟨⟨k + 1, S', T', v', fp', by omega, by omega, by go_num, by rw [show 200 * (k + 1) = 200 * k + 200 by omega]; exact HT2, hM⟩, by simp [intOf]; omega⟩
      · have hT0 := HS.out.mono (C := 3000) (by omega)
        clear HS
        have HB2 : k = m ∨ (k < m ∧ k = 15) := by omega
        rcases HB2 with h | ⟨h, h2⟩
        · subst h
          clear hlt
          have hl0 := hT0.fit.len
          have HC1 := Lib.hid (fun (L : List Ent) w' (h : Mem [] w L [lineT fp g S, refT T v] w') => clone_in h (List.Mem.head _) hT0 (by omega))
          have HC2 := Lib.hid (fun (L : List Ent) (fo : List Nat) (go : Nat) w' (h : Mem [] w L [lineT fo go S, lineT fp g S, refT T v] w') => clone_in h (List.Mem.tail _ (List.Mem.head _)) hT0 (by omega))
          have HE1 := Lib.hid (fun (L : List Ent) (fa fb : List Nat) (ga gb : Nat) w' (h : Mem [] w L [lineT fb gb S, lineT fa ga S, lineT fp g S, refT T v] w') => equal_in h (List.Mem.tail _ (List.Mem.head _)) (List.Mem.tail _ (List.Mem.tail _ (List.Mem.head _))) hT0 hT0 (by omega) (by omega))
          have HE2 := Lib.hid (fun (L : List Ent) (fa fb : List Nat) (ga gb : Nat) w' (h : Mem [] w L [lineT fb gb S, lineT fa ga S, lineT fp g S, refT T v] w') => equal_in h (List.Mem.tail _ (List.Mem.tail _ (List.Mem.head _))) (List.Mem.head _) hT0 hT0 (by omega) (by omega))
          rw [eqLn_refl] at HE1 HE2
          have HD := Lib.hid (fun (L : List Ent) (R : List Thing) (fp : List Nat) (ga : Nat) w' (h : Mem [] w L (lineT fp ga S :: refT T v :: R) w') => do_any more HMO.out h hT0 (by omega))
          have HST := Lib.hid (fun (L : List Ent) (R : List Thing) (fp : List Nat) w' (h : Mem [] w L (lineT fp g S :: R) w') => state_any (v := v) h hT0 (by omega))
          have HE3 := Lib.hid (fun (L : List Ent) (R : List Thing) (fp fb : List Nat) (gb : Nat) (X : Thing) w' (h : Mem [] w L (lineT fp g S :: X :: lineT fb gb S :: R) w') => equal_in h (List.Mem.tail _ (List.Mem.tail _ (List.Mem.head _))) (List.Mem.head _) hT0 hT0 (by omega) (by omega))
          rw [eqLn_refl] at HE3
          have HT0 := Lib.hid hT0
          clear hT0 hl0
          go_upto_region 13 with (first | ((with_reducible refine (HC1.out _ _ hM).mono ?_); clear hM; rintro e w1 ⟨ga, fa, rfl, hM⟩) | ((with_reducible refine (HC2.out _ _ _ _ hM).mono ?_); clear hM; rintro e w1 ⟨gb, fb, rfl, hM⟩) | ((with_reducible refine (HE1.out _ _ _ _ _ _ hM).mono ?_); rintro e w1 ⟨rfl, hb⟩; replace hM := hM.step hb; clear hb) | ((with_reducible refine (HE2.out _ _ _ _ _ _ hM).mono ?_); rintro e w1 ⟨rfl, hb⟩; replace hM := hM.step hb; clear hb) | ((first | with_reducible refine at_load ?_ | ((with_reducible refine at_load_g ?_ ?_); (· rfl))); first | refine lc hM ?_ | refine ll hM ?_ | refine lp hM ?_) | ((with_reducible refine at_store ?_); first | (refine ls hM ?_; clear hM; intro wx hM) | (refine lw hM ?_; clear hM; intro wx hM) | (refine lt hM ?_; clear hM; intro wx hM)) | ((with_reducible refine at_alloc ?_); refine lz hM ?_; clear hM; intro gx wx hM) | ((with_reducible refine at_box ?_); refine lb hM ?_; clear hM; intro gx wx hM))
          replace hM := Mem.toFront [_, _] (Mem.toFront [_, _, _] hM)
          go_upto_region 14 with (first | ((with_reducible refine (HD.out _ _ _ _ _ hM).mono ?_); clear hM; rintro e w1 ⟨Sa, Ta, fa2, va, rfl, hTa, hM⟩) | ((first | with_reducible refine at_load ?_ | ((with_reducible refine at_load_g ?_ ?_); (· rfl))); first | refine lc hM ?_ | refine ll hM ?_ | refine lp hM ?_) | ((with_reducible refine at_store ?_); first | (refine ls hM ?_; clear hM; intro wx hM) | (refine lw hM ?_; clear hM; intro wx hM) | (refine lt hM ?_; clear hM; intro wx hM)) | ((with_reducible refine at_alloc ?_); refine lz hM ?_; clear hM; intro gx wx hM) | ((with_reducible refine at_box ?_); refine lb hM ?_; clear hM; intro gx wx hM))
          have HTA := Lib.hid hTa
          clear hTa
          replace hM := Mem.toFront [_, _, _] hM
          replace hM := hM.perm (R' := [_, _, _, _]) (List.Perm.cons _ (List.Perm.cons _ (List.Perm.swap _ _ _)))
          go_upto_region 16 with (first | ((with_reducible refine (HE3.out _ _ _ _ _ _ _ hM).mono ?_); rintro e w1 ⟨rfl, hb⟩; replace hM := hM.step hb; clear hb) | ((with_reducible refine (HST.out _ _ _ _ hM).mono ?_); clear hM; rintro e w1 ⟨rfl, hM⟩) | ((first | with_reducible refine at_load ?_ | ((with_reducible refine at_load_g ?_ ?_); (· rfl))); first | refine lc hM ?_ | refine ll hM ?_ | refine lp hM ?_) | ((with_reducible refine at_store ?_); first | (refine ls hM ?_; clear hM; intro wx hM) | (refine lw hM ?_; clear hM; intro wx hM) | (refine lt hM ?_; clear hM; intro wx hM)) | ((with_reducible refine at_alloc ?_); refine lz hM ?_; clear hM; intro gx wx hM) | ((with_reducible refine at_box ?_); refine lb hM ?_; clear hM; intro gx wx hM))
          clear HC1 HC2 HE1 HE2 HE3 HD HST
          replace hM := Mem.toFront [_] hM
          obtain ⟨xe, Sx, hx1, hx2, hx3⟩ := send_out 120 Sa (by have := HTA.out.fit.len; omega)
          obtain ⟨ye, Sy, hy1, hy2, hy3⟩ := send_out 121 S (by have := HT0.out.fit.len; omega)
          have HX := Lib.hid (fun (L : List Ent) (R : List Thing) (fp : List Nat) (ga : Nat) w' (h : Mem [] w L (lineT fp ga Sa :: R) w') => send_at ⟨#[120]⟩ 120 rfl rfl h HTA.out (by omega) hx1 hx2)
          have HY := Lib.hid (fun (L : List Ent) (R : List Thing) (fb : List Nat) (gb : Nat) (A B : Thing) w' (h : Mem [] w L (A :: B :: lineT fb gb S :: R) w') => send_at3 ⟨#[121]⟩ 121 rfl rfl h HT0.out (by omega) hy1 hy2)
          have hTX := tie_send HTA.out (by omega) 0 [120] (by decide) (by intro x hx; simp at hx; omega)
          have hTY := tie_send HT0.out (by omega) 0 [121] (by decide) (by intro x hx; simp at hx; omega)
          rw [hx2] at hTX
          rw [hy2] at hTY
          have HEB := Lib.hid (fun (L : List Ent) (R : List Thing) (A : Thing) (fp fb : List Nat) (gb : Nat) w' (h : Mem [] w L (A :: lineT fp g S :: lineT fb gb Sy :: R) w') => equal_in h (List.Mem.tail _ (List.Mem.tail _ (List.Mem.head _))) (List.Mem.tail _ (List.Mem.head _)) hTY HT0.out (by omega) (by omega))
          have HEA := Lib.hid (fun (L : List Ent) (R : List Thing) (B : Thing) (fa fb : List Nat) (ga gb : Nat) w' (h : Mem [] w L (lineT fa ga Sx :: B :: lineT fb gb Sy :: R) w') => equal_in h (List.Mem.head _) (List.Mem.tail _ (List.Mem.tail _ (List.Mem.head _))) hTX hTY (by omega) (by omega))
          clear hx1 hx2 hy1 hy2 hTX hTY HT0 HTA
          rcases hy3 with ⟨hy4, rfl, hy5, hy6⟩ | ⟨hy4, rfl, rfl⟩
          · have e1 : eqLn Sy S = false := eqLn_wait (by rw [hy6]; exact eqB_len (by simp))
            rw [e1] at HEB
            rcases hx3 with ⟨hx4, rfl, hx5, hx6⟩ | ⟨hx4, rfl, rfl⟩
            · have e2 : eqLn Sx Sy = false := eqLn_wait (by rw [hx6, hy6]; exact eqB_last)
              rw [e2] at HEA
              clear e1 e2 hx4 hx5 hx6 hy4 hy5 hy6
              go_wp2_with (first | ((with_reducible refine (HX.out _ _ _ _ _ hM).mono ?_); clear hM HX; rintro e w1 ⟨fx, rfl, hM⟩) | ((with_reducible refine (HY.out _ _ _ _ _ _ _ hM).mono ?_); clear hM HY; rintro e w1 ⟨fy, rfl, hM⟩) | ((with_reducible refine (HEB.out _ _ _ _ _ _ _ hM).mono ?_); rintro e w1 ⟨rfl, hb⟩; replace hM := hM.step hb; clear hb) | ((with_reducible refine (HEA.out _ _ _ _ _ _ _ _ hM).mono ?_); rintro e w1 ⟨rfl, hb⟩; replace hM := hM.step hb; clear hb) | ((first | with_reducible refine at_load ?_ | ((with_reducible refine at_load_g ?_ ?_); (· rfl))); first | refine lc hM ?_ | refine ll hM ?_ | refine lp hM ?_) | ((with_reducible refine at_store ?_); first | (refine ls hM ?_; clear hM; intro wx hM) | (refine lw hM ?_; clear hM; intro wx hM) | (refine lt hM ?_; clear hM; intro wx hM)) | ((with_reducible refine at_alloc ?_); refine lz hM ?_; clear hM; intro gx wx hM) | ((with_reducible refine at_box ?_); refine lb hM ?_; clear hM; intro gx wx hM))
              go_ret
              exact ⟨rfl, Mem.below hM⟩
            · clear e1 hx4 hy4 hy5 hy6
              go_wp2_with (first | ((with_reducible refine (HX.out _ _ _ _ _ hM).mono ?_); clear hM HX; rintro e w1 ⟨fx, rfl, hM⟩) | ((with_reducible refine (HY.out _ _ _ _ _ _ _ hM).mono ?_); clear hM HY; rintro e w1 ⟨fy, rfl, hM⟩) | ((with_reducible refine (HEB.out _ _ _ _ _ _ _ hM).mono ?_); rintro e w1 ⟨rfl, hb⟩; replace hM := hM.step hb; clear hb) | ((with_reducible refine (HEA.out _ _ _ _ _ _ _ _ hM).mono ?_); rintro e w1 ⟨rfl, hb⟩; replace hM := hM.step hb; clear hb) | ((first | with_reducible refine at_load ?_ | ((with_reducible refine at_load_g ?_ ?_); (· rfl))); first | refine lc hM ?_ | refine ll hM ?_ | refine lp hM ?_) | ((with_reducible refine at_store ?_); first | (refine ls hM ?_; clear hM; intro wx hM) | (refine lw hM ?_; clear hM; intro wx hM) | (refine lt hM ?_; clear hM; intro wx hM)) | ((with_reducible refine at_alloc ?_); refine lz hM ?_; clear hM; intro gx wx hM) | ((with_reducible refine at_box ?_); refine lb hM ?_; clear hM; intro gx wx hM))
              go_ret
              exact ⟨rfl, Mem.below hM⟩
          · rw [eqLn_refl] at HEB
            rcases hx3 with ⟨hx4, rfl, hx5, hx6⟩ | ⟨hx4, rfl, rfl⟩
            · have e2 : eqLn Sx Sy = false := eqLn_up (by rw [hx5, hy4]; decide)
              rw [e2] at HEA
              clear e2 hx4 hx5 hx6 hy4
              go_wp2_with (first | ((with_reducible refine (HX.out _ _ _ _ _ hM).mono ?_); clear hM HX; rintro e w1 ⟨fx, rfl, hM⟩) | ((with_reducible refine (HY.out _ _ _ _ _ _ _ hM).mono ?_); clear hM HY; rintro e w1 ⟨fy, rfl, hM⟩) | ((with_reducible refine (HEB.out _ _ _ _ _ _ _ hM).mono ?_); rintro e w1 ⟨rfl, hb⟩; replace hM := hM.step hb; clear hb) | ((with_reducible refine (HEA.out _ _ _ _ _ _ _ _ hM).mono ?_); rintro e w1 ⟨rfl, hb⟩; replace hM := hM.step hb; clear hb) | ((first | with_reducible refine at_load ?_ | ((with_reducible refine at_load_g ?_ ?_); (· rfl))); first | refine lc hM ?_ | refine ll hM ?_ | refine lp hM ?_) | ((with_reducible refine at_store ?_); first | (refine ls hM ?_; clear hM; intro wx hM) | (refine lw hM ?_; clear hM; intro wx hM) | (refine lt hM ?_; clear hM; intro wx hM)) | ((with_reducible refine at_alloc ?_); refine lz hM ?_; clear hM; intro gx wx hM) | ((with_reducible refine at_box ?_); refine lb hM ?_; clear hM; intro gx wx hM))
              go_ret
              exact ⟨rfl, Mem.below hM⟩
            · clear hx4 hy4
              go_wp2_with (first | ((with_reducible refine (HX.out _ _ _ _ _ hM).mono ?_); clear hM HX; rintro e w1 ⟨fx, rfl, hM⟩) | ((with_reducible refine (HY.out _ _ _ _ _ _ _ hM).mono ?_); clear hM HY; rintro e w1 ⟨fy, rfl, hM⟩) | ((with_reducible refine (HEB.out _ _ _ _ _ _ _ hM).mono ?_); rintro e w1 ⟨rfl, hb⟩; replace hM := hM.step hb; clear hb) | ((with_reducible refine (HEA.out _ _ _ _ _ _ _ _ hM).mono ?_); rintro e w1 ⟨rfl, hb⟩; replace hM := hM.step hb; clear hb) | ((first | with_reducible refine at_load ?_ | ((with_reducible refine at_load_g ?_ ?_); (· rfl))); first | refine lc hM ?_ | refine ll hM ?_ | refine lp hM ?_) | ((with_reducible refine at_store ?_); first | (refine ls hM ?_; clear hM; intro wx hM) | (refine lw hM ?_; clear hM; intro wx hM) | (refine lt hM ?_; clear hM; intro wx hM)) | ((with_reducible refine at_alloc ?_); refine lz hM ?_; clear hM; intro gx wx hM) | ((with_reducible refine at_box ?_); refine lb hM ?_; clear hM; intro gx wx hM))
              go_ret
              exact ⟨rfl, Mem.below hM⟩
        · subst h2
          have hk1 : ((15 : Nat) : Int) < (m : Int) := by omega
          clear hlt
          have hl0 := hT0.fit.len
          have HC1 := Lib.hid (fun (L : List Ent) w' (h : Mem [] w L [lineT fp g S, refT T v] w') => clone_in h (List.Mem.head _) hT0 (by omega))
          have HC2 := Lib.hid (fun (L : List Ent) (fo : List Nat) (go : Nat) w' (h : Mem [] w L [lineT fo go S, lineT fp g S, refT T v] w') => clone_in h (List.Mem.tail _ (List.Mem.head _)) hT0 (by omega))
          have HE1 := Lib.hid (fun (L : List Ent) (fa fb : List Nat) (ga gb : Nat) w' (h : Mem [] w L [lineT fb gb S, lineT fa ga S, lineT fp g S, refT T v] w') => equal_in h (List.Mem.tail _ (List.Mem.head _)) (List.Mem.tail _ (List.Mem.tail _ (List.Mem.head _))) hT0 hT0 (by omega) (by omega))
          have HE2 := Lib.hid (fun (L : List Ent) (fa fb : List Nat) (ga gb : Nat) w' (h : Mem [] w L [lineT fb gb S, lineT fa ga S, lineT fp g S, refT T v] w') => equal_in h (List.Mem.tail _ (List.Mem.tail _ (List.Mem.head _))) (List.Mem.head _) hT0 hT0 (by omega) (by omega))
          rw [eqLn_refl] at HE1 HE2
          have HD := Lib.hid (fun (L : List Ent) (R : List Thing) (fp : List Nat) (ga : Nat) w' (h : Mem [] w L (lineT fp ga S :: refT T v :: R) w') => do_any more HMO.out h hT0 (by omega))
          have HST := Lib.hid (fun (L : List Ent) (R : List Thing) (fp : List Nat) w' (h : Mem [] w L (lineT fp g S :: R) w') => state_any (v := v) h hT0 (by omega))
          have HE3 := Lib.hid (fun (L : List Ent) (R : List Thing) (fp fb : List Nat) (gb : Nat) (X : Thing) w' (h : Mem [] w L (lineT fp g S :: X :: lineT fb gb S :: R) w') => equal_in h (List.Mem.tail _ (List.Mem.tail _ (List.Mem.head _))) (List.Mem.head _) hT0 hT0 (by omega) (by omega))
          rw [eqLn_refl] at HE3
          have HT0 := Lib.hid hT0
          clear hT0 hl0
          go_upto_region 13 with (first | ((with_reducible refine (HC1.out _ _ hM).mono ?_); clear hM; rintro e w1 ⟨ga, fa, rfl, hM⟩) | ((with_reducible refine (HC2.out _ _ _ _ hM).mono ?_); clear hM; rintro e w1 ⟨gb, fb, rfl, hM⟩) | ((with_reducible refine (HE1.out _ _ _ _ _ _ hM).mono ?_); rintro e w1 ⟨rfl, hb⟩; replace hM := hM.step hb; clear hb) | ((with_reducible refine (HE2.out _ _ _ _ _ _ hM).mono ?_); rintro e w1 ⟨rfl, hb⟩; replace hM := hM.step hb; clear hb) | ((first | with_reducible refine at_load ?_ | ((with_reducible refine at_load_g ?_ ?_); (· rfl))); first | refine lc hM ?_ | refine ll hM ?_ | refine lp hM ?_) | ((with_reducible refine at_store ?_); first | (refine ls hM ?_; clear hM; intro wx hM) | (refine lw hM ?_; clear hM; intro wx hM) | (refine lt hM ?_; clear hM; intro wx hM)) | ((with_reducible refine at_alloc ?_); refine lz hM ?_; clear hM; intro gx wx hM) | ((with_reducible refine at_box ?_); refine lb hM ?_; clear hM; intro gx wx hM))
          replace hM := Mem.toFront [_, _] (Mem.toFront [_, _, _] hM)
          go_upto_region 14 with (first | ((with_reducible refine (HD.out _ _ _ _ _ hM).mono ?_); clear hM; rintro e w1 ⟨Sa, Ta, fa2, va, rfl, hTa, hM⟩) | ((first | with_reducible refine at_load ?_ | ((with_reducible refine at_load_g ?_ ?_); (· rfl))); first | refine lc hM ?_ | refine ll hM ?_ | refine lp hM ?_) | ((with_reducible refine at_store ?_); first | (refine ls hM ?_; clear hM; intro wx hM) | (refine lw hM ?_; clear hM; intro wx hM) | (refine lt hM ?_; clear hM; intro wx hM)) | ((with_reducible refine at_alloc ?_); refine lz hM ?_; clear hM; intro gx wx hM) | ((with_reducible refine at_box ?_); refine lb hM ?_; clear hM; intro gx wx hM))
          have HTA := Lib.hid hTa
          clear hTa
          replace hM := Mem.toFront [_, _, _] hM
          replace hM := hM.perm (R' := [_, _, _, _]) (List.Perm.cons _ (List.Perm.cons _ (List.Perm.swap _ _ _)))
          go_upto_region 16 with (first | ((with_reducible refine (HE3.out _ _ _ _ _ _ _ hM).mono ?_); rintro e w1 ⟨rfl, hb⟩; replace hM := hM.step hb; clear hb) | ((with_reducible refine (HST.out _ _ _ _ hM).mono ?_); clear hM; rintro e w1 ⟨rfl, hM⟩) | ((first | with_reducible refine at_load ?_ | ((with_reducible refine at_load_g ?_ ?_); (· rfl))); first | refine lc hM ?_ | refine ll hM ?_ | refine lp hM ?_) | ((with_reducible refine at_store ?_); first | (refine ls hM ?_; clear hM; intro wx hM) | (refine lw hM ?_; clear hM; intro wx hM) | (refine lt hM ?_; clear hM; intro wx hM)) | ((with_reducible refine at_alloc ?_); refine lz hM ?_; clear hM; intro gx wx hM) | ((with_reducible refine at_box ?_); refine lb hM ?_; clear hM; intro gx wx hM))
          clear HC1 HC2 HE1 HE2 HE3 HD HST
          replace hM := Mem.toFront [_] hM
          obtain ⟨xe, Sx, hx1, hx2, hx3⟩ := send_out 120 Sa (by have := HTA.out.fit.len; omega)
          obtain ⟨ye, Sy, hy1, hy2, hy3⟩ := send_out 121 S (by have := HT0.out.fit.len; omega)
          have HX := Lib.hid (fun (L : List Ent) (R : List Thing) (fp : List Nat) (ga : Nat) w' (h : Mem [] w L (lineT fp ga Sa :: R) w') => send_at ⟨#[120]⟩ 120 rfl rfl h HTA.out (by omega) hx1 hx2)
          have HY := Lib.hid (fun (L : List Ent) (R : List Thing) (fb : List Nat) (gb : Nat) (A B : Thing) w' (h : Mem [] w L (A :: B :: lineT fb gb S :: R) w') => send_at3 ⟨#[121]⟩ 121 rfl rfl h HT0.out (by omega) hy1 hy2)
          have hTX := tie_send HTA.out (by omega) 0 [120] (by decide) (by intro x hx; simp at hx; omega)
          have hTY := tie_send HT0.out (by omega) 0 [121] (by decide) (by intro x hx; simp at hx; omega)
          rw [hx2] at hTX
          rw [hy2] at hTY
          have HEB := Lib.hid (fun (L : List Ent) (R : List Thing) (A : Thing) (fp fb : List Nat) (gb : Nat) w' (h : Mem [] w L (A :: lineT fp g S :: lineT fb gb Sy :: R) w') => equal_in h (List.Mem.tail _ (List.Mem.tail _ (List.Mem.head _))) (List.Mem.tail _ (List.Mem.head _)) hTY HT0.out (by omega) (by omega))
          have HEA := Lib.hid (fun (L : List Ent) (R : List Thing) (B : Thing) (fa fb : List Nat) (ga gb : Nat) w' (h : Mem [] w L (lineT fa ga Sx :: B :: lineT fb gb Sy :: R) w') => equal_in h (List.Mem.head _) (List.Mem.tail _ (List.Mem.tail _ (List.Mem.head _))) hTX hTY (by omega) (by omega))
          clear hx1 hx2 hy1 hy2 hTX hTY HT0 HTA
          rcases hy3 with ⟨hy4, rfl, hy5, hy6⟩ | ⟨hy4, rfl, rfl⟩
          · have e1 : eqLn Sy S = false := eqLn_wait (by rw [hy6]; exact eqB_len (by simp))
            rw [e1] at HEB
            rcases hx3 with ⟨hx4, rfl, hx5, hx6⟩ | ⟨hx4, rfl, rfl⟩
            · have e2 : eqLn Sx Sy = false := eqLn_wait (by rw [hx6, hy6]; exact eqB_last)
              rw [e2] at HEA
              clear e1 e2 hx4 hx5 hx6 hy4 hy5 hy6
              go_wp2_with (first | ((with_reducible refine (HX.out _ _ _ _ _ hM).mono ?_); clear hM HX; rintro e w1 ⟨fx, rfl, hM⟩) | ((with_reducible refine (HY.out _ _ _ _ _ _ _ hM).mono ?_); clear hM HY; rintro e w1 ⟨fy, rfl, hM⟩) | ((with_reducible refine (HEB.out _ _ _ _ _ _ _ hM).mono ?_); rintro e w1 ⟨rfl, hb⟩; replace hM := hM.step hb; clear hb) | ((with_reducible refine (HEA.out _ _ _ _ _ _ _ _ hM).mono ?_); rintro e w1 ⟨rfl, hb⟩; replace hM := hM.step hb; clear hb) | ((first | with_reducible refine at_load ?_ | ((with_reducible refine at_load_g ?_ ?_); (· rfl))); first | refine lc hM ?_ | refine ll hM ?_ | refine lp hM ?_) | ((with_reducible refine at_store ?_); first | (refine ls hM ?_; clear hM; intro wx hM) | (refine lw hM ?_; clear hM; intro wx hM) | (refine lt hM ?_; clear hM; intro wx hM)) | ((with_reducible refine at_alloc ?_); refine lz hM ?_; clear hM; intro gx wx hM) | ((with_reducible refine at_box ?_); refine lb hM ?_; clear hM; intro gx wx hM))
              go_ret
              exact ⟨rfl, Mem.below hM⟩
            · clear e1 hx4 hy4 hy5 hy6
              go_wp2_with (first | ((with_reducible refine (HX.out _ _ _ _ _ hM).mono ?_); clear hM HX; rintro e w1 ⟨fx, rfl, hM⟩) | ((with_reducible refine (HY.out _ _ _ _ _ _ _ hM).mono ?_); clear hM HY; rintro e w1 ⟨fy, rfl, hM⟩) | ((with_reducible refine (HEB.out _ _ _ _ _ _ _ hM).mono ?_); rintro e w1 ⟨rfl, hb⟩; replace hM := hM.step hb; clear hb) | ((with_reducible refine (HEA.out _ _ _ _ _ _ _ _ hM).mono ?_); rintro e w1 ⟨rfl, hb⟩; replace hM := hM.step hb; clear hb) | ((first | with_reducible refine at_load ?_ | ((with_reducible refine at_load_g ?_ ?_); (· rfl))); first | refine lc hM ?_ | refine ll hM ?_ | refine lp hM ?_) | ((with_reducible refine at_store ?_); first | (refine ls hM ?_; clear hM; intro wx hM) | (refine lw hM ?_; clear hM; intro wx hM) | (refine lt hM ?_; clear hM; intro wx hM)) | ((with_reducible refine at_alloc ?_); refine lz hM ?_; clear hM; intro gx wx hM) | ((with_reducible refine at_box ?_); refine lb hM ?_; clear hM; intro gx wx hM))
              go_ret
              exact ⟨rfl, Mem.below hM⟩
          · rw [eqLn_refl] at HEB
            rcases hx3 with ⟨hx4, rfl, hx5, hx6⟩ | ⟨hx4, rfl, rfl⟩
            · have e2 : eqLn Sx Sy = false := eqLn_up (by rw [hx5, hy4]; decide)
              rw [e2] at HEA
              clear e2 hx4 hx5 hx6 hy4
              go_wp2_with (first | ((with_reducible refine (HX.out _ _ _ _ _ hM).mono ?_); clear hM HX; rintro e w1 ⟨fx, rfl, hM⟩) | ((with_reducible refine (HY.out _ _ _ _ _ _ _ hM).mono ?_); clear hM HY; rintro e w1 ⟨fy, rfl, hM⟩) | ((with_reducible refine (HEB.out _ _ _ _ _ _ _ hM).mono ?_); rintro e w1 ⟨rfl, hb⟩; replace hM := hM.step hb; clear hb) | ((with_reducible refine (HEA.out _ _ _ _ _ _ _ _ hM).mono ?_); rintro e w1 ⟨rfl, hb⟩; replace hM := hM.step hb; clear hb) | ((first | with_reducible refine at_load ?_ | ((with_reducible refine at_load_g ?_ ?_); (· rfl))); first | refine lc hM ?_ | refine ll hM ?_ | refine lp hM ?_) | ((with_reducible refine at_store ?_); first | (refine ls hM ?_; clear hM; intro wx hM) | (refine lw hM ?_; clear hM; intro wx hM) | (refine lt hM ?_; clear hM; intro wx hM)) | ((with_reducible refine at_alloc ?_); refine lz hM ?_; clear hM; intro gx wx hM) | ((with_reducible refine at_box ?_); refine lb hM ?_; clear hM; intro gx wx hM))
              go_ret
              exact ⟨rfl, Mem.below hM⟩
            · clear hx4 hy4
              go_wp2_with (first | ((with_reducible refine (HX.out _ _ _ _ _ hM).mono ?_); clear hM HX; rintro e w1 ⟨fx, rfl, hM⟩) | ((with_reducible refine (HY.out _ _ _ _ _ _ _ hM).mono ?_); clear hM HY; rintro e w1 ⟨fy, rfl, hM⟩) | ((with_reducible refine (HEB.out _ _ _ _ _ _ _ hM).mono ?_); rintro e w1 ⟨rfl, hb⟩; replace hM := hM.step hb; clear hb) | ((with_reducible refine (HEA.out _ _ _ _ _ _ _ _ hM).mono ?_); rintro e w1 ⟨rfl, hb⟩; replace hM := hM.step hb; clear hb) | ((first | with_reducible refine at_load ?_ | ((with_reducible refine at_load_g ?_ ?_); (· rfl))); first | refine lc hM ?_ | refine ll hM ?_ | refine lp hM ?_) | ((with_reducible refine at_store ?_); first | (refine ls hM ?_; clear hM; intro wx hM) | (refine lw hM ?_; clear hM; intro wx hM) | (refine lt hM ?_; clear hM; intro wx hM)) | ((with_reducible refine at_alloc ?_); refine lz hM ?_; clear hM; intro gx wx hM) | ((with_reducible refine at_box ?_); refine lb hM ?_; clear hM; intro gx wx hM))
              go_ret
              exact ⟨rfl, Mem.below hM⟩
  · obtain ⟨z, hzz⟩ : ∃ z, chk r d p us = z := ⟨_, rfl⟩
    have c1 : (z != 0) = true := by rw [← hzz]; simpa using hz
    have HN := Lib.hid (fun (A : Option Addr) (c : Nat) w hW => new_no (w := w) r d p A us.length c us hW (by omega) hz)
    rw [hzz] at HN
    clear hz hzz hul
    go_enter Try.func12, Try.ntmps12
    go_wp2_with (first | ((with_reducible refine (known_any _).mono ?_); rintro e w1 ⟨rfl, hb⟩; replace hM := hM.step hb; clear hb) | ((with_reducible refine (HC.out _ hM.below).mono ?_); rintro e w1 ⟨A1, c1', rfl, hb⟩; replace hM := hM.newThing hb; clear hb) | ((with_reducible refine (config_in (wT_in hM (List.Mem.head _)) HU.out).mono ?_); rintro e w1 ⟨A2, c2, rfl, hb⟩; replace hM := hM.newThing hb; clear hb) | ((with_reducible refine (HN.out _ _ _ (winT_in hM (List.Mem.head _))).mono ?_); rintro e w1 ⟨rfl, hb⟩; replace hM := hM.step hb; clear hb) | ((first | with_reducible refine at_load ?_ | ((with_reducible refine at_load_g ?_ ?_); (· rfl))); first | refine lc hM ?_ | refine ll hM ?_ | refine lp hM ?_) | ((with_reducible refine at_store ?_); first | (refine ls hM ?_; clear hM; intro wx hM) | (refine lw hM ?_; clear hM; intro wx hM) | (refine lt hM ?_; clear hM; intro wx hM)) | ((with_reducible refine at_alloc ?_); refine lz hM ?_; clear hM; intro gx wx hM) | ((with_reducible refine at_box ?_); refine lb hM ?_; clear hM; intro gx wx hM))
    go_ret
    exact ⟨rfl, hM.below⟩
end Go.Proofs.Ytenflgbaibjeoaa
