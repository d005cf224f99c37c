/- LineCapacity: the walk. -/
import Derived.Test.YtenflgbaibjeoaaLqa
import Derived.Test.YtenflgbaibjeoaaLcg
namespace Go.Lin
theorem count_range (r d p : Int) (ws : List Win) (f : Int) : ∀ k : Nat, 0 ≤ count r d p ws f k ∧ count r d p ws f k ≤ k
  | 0 => by simp [count]
  | k + 1 => by
    have := count_range r d p ws f k
    simp only [count]
    split <;> omega
theorem count_succ (r d p : Int) (ws : List Win) (f : Int) (k : Nat) : count r d p ws f (k + 1) = count r d p ws f k + (if connected r d p ws (f + k) then 1 else 0) := rfl
end Go.Lin
namespace Go.Proofs.Ytenflgbaibjeoaa
open Go Go.RowKit Go.Bul Go.Thg Go.Lin
theorem cap_zero (r d p a b : Int) (A : Option Addr) (n c : Nat) (ws : List Win) (w : World) (hn : n ≤ 1000) (hW : Wins w A n ws) (h : a < 0 ∨ b ≤ a ∨ 10000000 < b ∨ chk r d p ws ≠ 0) :
    Calls Try.prog 30 #[cfgV r d p A n c, .int .i64 a, .int .i64 b] w fun e w' => e = .returned (.int .i64 0) ∧ Below w.heap.size w w' := by
  by_cases h1 : a < 0 ∨ b < a ∨ 10000000 < b ∨ chk r d p ws ≠ 0
  · exact cap_no r d p a b A n c ws w hn hW h1
  · obtain rfl : b = a := by omega
    have := cap_yes r d p b b A n c ws w (by omega) (by omega) (by omega) (by omega) hW (by omega) (by omega)
    rwa [Int.sub_self, Int.mul_zero] at this
attribute [local irreducible] connected chk before count
set_option maxRecDepth 20000 in
set_option maxHeartbeats 4000000 in
theorem linecap_neg (r d p f l : Int) (A : Option Addr) (n c : Nat) (ws : List Win) (w : World) (hf : f < 0) (hI : WinsIn w A n c ws) :
    Calls Try.prog 6 #[cfgV r d p A n c, .int .i64 f, .int .i64 l] w fun e w' => e = .returned (.bool true) ∧ Below w.heap.size w w' := by
  have hM := Mem.start [] w
  have HC := Lib.hid (fun w' hb => cut_in (r := r) (d := d) (p := p) (hI.keep (w' := w') hb))
  obtain ⟨us, hus⟩ : ∃ us, ws.take 40 = us := ⟨_, rfl⟩
  have hul : us.length ≤ 40 := by rw [← hus, List.length_take]; omega
  rw [hus] at HC
  have HU := Lib.hid hul
  clear hus hI
  have HK := Lib.hid (fun (A : Option Addr) (c : Nat) w hW => rcheck_any r d p A us.length c us w (by omega) hW)
  have HZ := Lib.hid (fun (b : Int) (_ : True) (A : Option Addr) (c : Nat) w hW => cap_zero r d p f b A us.length c us w (by omega) hW (.inl hf))
  have d1 : decide (f < 0) = true := decide_eq_true hf
  by_cases h5 : 500 < l
  · have d2 : decide (500 < l) = true := decide_eq_true h5
    go_enter Try.func6, Try.ntmps6
    go_wp2_with (first | ((with_reducible refine (known_any _).mono ?_); rintro e w1 ⟨rfl, hb⟩; replace hM := hM.step hb; clear hb) | ((with_reducible refine (HC.out _ hM.below).mono ?_); rintro e w1 ⟨A1, c1', rfl, hb⟩; replace hM := hM.newThing hb; clear hb) | ((with_reducible refine (config_in (wT_in hM (List.Mem.head _)) HU.out).mono ?_); rintro e w1 ⟨A2, c2, rfl, hb⟩; replace hM := hM.newThing hb; clear hb) | ((with_reducible refine (HK.out _ _ _ (wT_in hM (List.Mem.tail _ (List.Mem.head _)))).mono ?_); rintro e w1 ⟨rfl, hb⟩; replace hM := hM.step hb; clear hb) | ((with_reducible refine (HZ.out _ (by first | exact HB.out | trivial) _ _ _ (winT_in hM (List.Mem.head _))).mono ?_); rintro e w1 ⟨rfl, hb⟩; replace hM := hM.step hb; clear hb) | ((first | with_reducible refine at_load ?_ | ((with_reducible refine at_load_g ?_ ?_); (· rfl))); first | refine lc hM ?_ | refine ll hM ?_ | refine lp hM ?_) | ((with_reducible refine at_store ?_); first | (refine ls hM ?_; clear hM; intro wx hM) | (refine lw hM ?_; clear hM; intro wx hM) | (refine lt hM ?_; clear hM; intro wx hM)) | ((with_reducible refine at_alloc ?_); refine lz hM ?_; clear hM; intro gx wx hM) | ((with_reducible refine at_box ?_); refine lb hM ?_; clear hM; intro gx wx hM))
    all_goals go_ret
    all_goals exact ⟨rfl, hM.below⟩
  · have d2 : decide (500 < l) = false := decide_eq_false h5
    go_enter Try.func6, Try.ntmps6
    go_wp2_with (first | ((with_reducible refine (known_any _).mono ?_); rintro e w1 ⟨rfl, hb⟩; replace hM := hM.step hb; clear hb) | ((with_reducible refine (HC.out _ hM.below).mono ?_); rintro e w1 ⟨A1, c1', rfl, hb⟩; replace hM := hM.newThing hb; clear hb) | ((with_reducible refine (config_in (wT_in hM (List.Mem.head _)) HU.out).mono ?_); rintro e w1 ⟨A2, c2, rfl, hb⟩; replace hM := hM.newThing hb; clear hb) | ((with_reducible refine (HK.out _ _ _ (wT_in hM (List.Mem.tail _ (List.Mem.head _)))).mono ?_); rintro e w1 ⟨rfl, hb⟩; replace hM := hM.step hb; clear hb) | ((with_reducible refine (HZ.out _ (by first | exact HB.out | trivial) _ _ _ (winT_in hM (List.Mem.head _))).mono ?_); rintro e w1 ⟨rfl, hb⟩; replace hM := hM.step hb; clear hb) | ((first | with_reducible refine at_load ?_ | ((with_reducible refine at_load_g ?_ ?_); (· rfl))); first | refine lc hM ?_ | refine ll hM ?_ | refine lp hM ?_) | ((with_reducible refine at_store ?_); first | (refine ls hM ?_; clear hM; intro wx hM) | (refine lw hM ?_; clear hM; intro wx hM) | (refine lt hM ?_; clear hM; intro wx hM)) | ((with_reducible refine at_alloc ?_); refine lz hM ?_; clear hM; intro gx wx hM) | ((with_reducible refine at_box ?_); refine lb hM ?_; clear hM; intro gx wx hM))
    all_goals go_ret
    all_goals exact ⟨rfl, hM.below⟩
set_option maxRecDepth 20000 in
set_option maxHeartbeats 4000000 in
theorem linecap_neg2 (r d p f l : Int) (A : Option Addr) (n c : Nat) (ws : List Win) (w : World) (hf : 0 ≤ f) (hl : l < 0) (hI : WinsIn w A n c ws) :
    Calls Try.prog 6 #[cfgV r d p A n c, .int .i64 f, .int .i64 l] w fun e w' => e = .returned (.bool true) ∧ Below w.heap.size w w' := by
  have hM := Mem.start [] w
  have HC := Lib.hid (fun w' hb => cut_in (r := r) (d := d) (p := p) (hI.keep (w' := w') hb))
  obtain ⟨us, hus⟩ : ∃ us, ws.take 40 = us := ⟨_, rfl⟩
  have hul : us.length ≤ 40 := by rw [← hus, List.length_take]; omega
  rw [hus] at HC
  have HU := Lib.hid hul
  clear hus hI
  have HK := Lib.hid (fun (A : Option Addr) (c : Nat) w hW => rcheck_any r d p A us.length c us w (by omega) hW)
  have HZ := Lib.hid (fun (b : Int) (hb : b ≤ f) (A : Option Addr) (c : Nat) w hW => cap_zero r d p f b A us.length c us w (by omega) hW (.inr (.inl hb)))
  have d1 : decide (f < 0) = false := decide_eq_false (by omega)
  have d2 : decide (500 < l) = false := decide_eq_false (by omega)
  have d3 : decide (l < 0) = true := decide_eq_true hl
  have HB := Lib.hid (show wrap64 (l.tmod 1000) ≤ f by
    have e1 : l.tmod 1000 = -((-l) % 1000) := by
      rw [show l = -(-l) by omega, Int.neg_tmod, Int.tmod_eq_emod_of_nonneg (by omega)]
      simp
    rw [e1]
    unfold wrap64
    omega)
  have hm1 : (if (0 : Int) < f then (0 : Int) else f) = 0 := by split <;> omega
  have hm2 : (if (0 : Int) < l then (0 : Int) else l) = l := if_neg (by omega)
  go_enter Try.func6, Try.ntmps6
  go_wp2_with (first | ((with_reducible refine (known_any _).mono ?_); rintro e w1 ⟨rfl, hb⟩; replace hM := hM.step hb; clear hb) | ((with_reducible refine (HC.out _ hM.below).mono ?_); rintro e w1 ⟨A1, c1', rfl, hb⟩; replace hM := hM.newThing hb; clear hb) | ((with_reducible refine (config_in (wT_in hM (List.Mem.head _)) HU.out).mono ?_); rintro e w1 ⟨A2, c2, rfl, hb⟩; replace hM := hM.newThing hb; clear hb) | ((with_reducible refine (HK.out _ _ _ (wT_in hM (List.Mem.tail _ (List.Mem.head _)))).mono ?_); rintro e w1 ⟨rfl, hb⟩; replace hM := hM.step hb; clear hb) | ((with_reducible refine (HZ.out _ (by first | exact HB.out | trivial) _ _ _ (winT_in hM (List.Mem.head _))).mono ?_); rintro e w1 ⟨rfl, hb⟩; replace hM := hM.step hb; clear hb) | ((first | with_reducible refine at_load ?_ | ((with_reducible refine at_load_g ?_ ?_); (· rfl))); first | refine lc hM ?_ | refine ll hM ?_ | refine lp hM ?_) | ((with_reducible refine at_store ?_); first | (refine ls hM ?_; clear hM; intro wx hM) | (refine lw hM ?_; clear hM; intro wx hM) | (refine lt hM ?_; clear hM; intro wx hM)) | ((with_reducible refine at_alloc ?_); refine lz hM ?_; clear hM; intro gx wx hM) | ((with_reducible refine at_box ?_); refine lb hM ?_; clear hM; intro gx wx hM))
  go_ret
  exact ⟨rfl, hM.below⟩
set_option maxRecDepth 20000 in
set_option maxHeartbeats 8000000 in
theorem linecap_small (r d p f L : Int) (A : Option Addr) (n c : Nat) (ws : List Win) (w : World) (hf : 0 ≤ f) (hl : 0 ≤ L) (hl2 : L ≤ 500) (hI : WinsIn w A n c ws) :
    Calls Try.prog 6 #[cfgV r d p A n c, .int .i64 f, .int .i64 L] w fun e w' => e = .returned (.bool true) ∧ Below w.heap.size w w' := by
  have hM := Mem.start [] w
  have HC := Lib.hid (fun w' hb => cut_in (r := r) (d := d) (p := p) (hI.keep (w' := w') hb))
  obtain ⟨us, hus⟩ : ∃ us, ws.take 40 = us := ⟨_, rfl⟩
  have hul : us.length ≤ 40 := by rw [← hus, List.length_take]; omega
  rw [hus] at HC
  have HU := Lib.hid hul
  clear hus hI
  have HK := Lib.hid (fun (A : Option Addr) (c : Nat) w hW => rcheck_any r d p A us.length c us w (by omega) hW)
  have d1 : decide (f < 0) = false := decide_eq_false (by omega)
  have d2 : decide (500 < L) = false := decide_eq_false (by omega)
  have d3 : decide (L < 0) = false := decide_eq_false (by omega)
  by_cases b1 : 10000000 < f
  · have t1 : decide (10000000 < f) = true := decide_eq_true b1
    have HZ := Lib.hid (fun (A : Option Addr) (c : Nat) w hW => cap_zero r d p f f A us.length c us w (by omega) hW (.inr (.inl (Int.le_refl _))))
    go_enter Try.func6, Try.ntmps6
    go_wp2_with (first | ((with_reducible refine (known_any _).mono ?_); rintro e w1 ⟨rfl, hb⟩; replace hM := hM.step hb; clear hb) | ((with_reducible refine (HC.out _ hM.below).mono ?_); rintro e w1 ⟨A1, c1', rfl, hb⟩; replace hM := hM.newThing hb; clear hb) | ((with_reducible refine (config_in (wT_in hM (List.Mem.head _)) HU.out).mono ?_); rintro e w1 ⟨A2, c2, rfl, hb⟩; replace hM := hM.newThing hb; clear hb) | ((with_reducible refine (HK.out _ _ _ (wT_in hM (List.Mem.tail _ (List.Mem.head _)))).mono ?_); rintro e w1 ⟨rfl, hb⟩; replace hM := hM.step hb; clear hb) | ((with_reducible refine (HZ.out _ _ _ (winT_in hM (List.Mem.head _))).mono ?_); rintro e w1 ⟨rfl, hb⟩; replace hM := hM.step hb; clear hb) | ((first | with_reducible refine at_load ?_ | ((with_reducible refine at_load_g ?_ ?_); (· rfl))); first | refine lc hM ?_ | refine ll hM ?_ | refine lp hM ?_) | ((with_reducible refine at_store ?_); first | (refine ls hM ?_; clear hM; intro wx hM) | (refine lw hM ?_; clear hM; intro wx hM) | (refine lt hM ?_; clear hM; intro wx hM)) | ((with_reducible refine at_alloc ?_); refine lz hM ?_; clear hM; intro gx wx hM) | ((with_reducible refine at_box ?_); refine lb hM ?_; clear hM; intro gx wx hM))
    go_ret
    exact ⟨rfl, hM.below⟩
  · have t1 : decide (10000000 < f) = false := decide_eq_false b1
    by_cases b2 : 10000000 < f + L
    · have t2 : decide (10000000 < f + L) = true := decide_eq_true b2
      have HZ := Lib.hid (fun (A : Option Addr) (c : Nat) w hW => cap_zero r d p f (f + L) A us.length c us w (by omega) hW (.inr (.inr (.inl b2))))
      go_enter Try.func6, Try.ntmps6
      go_wp2_with (first | ((with_reducible refine (known_any _).mono ?_); rintro e w1 ⟨rfl, hb⟩; replace hM := hM.step hb; clear hb) | ((with_reducible refine (HC.out _ hM.below).mono ?_); rintro e w1 ⟨A1, c1', rfl, hb⟩; replace hM := hM.newThing hb; clear hb) | ((with_reducible refine (config_in (wT_in hM (List.Mem.head _)) HU.out).mono ?_); rintro e w1 ⟨A2, c2, rfl, hb⟩; replace hM := hM.newThing hb; clear hb) | ((with_reducible refine (HK.out _ _ _ (wT_in hM (List.Mem.tail _ (List.Mem.head _)))).mono ?_); rintro e w1 ⟨rfl, hb⟩; replace hM := hM.step hb; clear hb) | ((with_reducible refine (HZ.out _ _ _ (winT_in hM (List.Mem.head _))).mono ?_); rintro e w1 ⟨rfl, hb⟩; replace hM := hM.step hb; clear hb) | ((first | with_reducible refine at_load ?_ | ((with_reducible refine at_load_g ?_ ?_); (· rfl))); first | refine lc hM ?_ | refine ll hM ?_ | refine lp hM ?_) | ((with_reducible refine at_store ?_); first | (refine ls hM ?_; clear hM; intro wx hM) | (refine lw hM ?_; clear hM; intro wx hM) | (refine lt hM ?_; clear hM; intro wx hM)) | ((with_reducible refine at_alloc ?_); refine lz hM ?_; clear hM; intro gx wx hM) | ((with_reducible refine at_box ?_); refine lb hM ?_; clear hM; intro gx wx hM))
      go_ret
      exact ⟨rfl, hM.below⟩
    · have t2 : decide (10000000 < f + L) = false := decide_eq_false b2
      by_cases b3 : chk r d p us = 0
      · rw [b3] at HK
        have HX := Lib.hid (fun (j : Int) (hj : j ≤ 10000000) (A : Option Addr) (c : Nat) w hW => rconn_any r d p j A us.length c us w (by omega) (by omega) hW)
        obtain ⟨K, hK⟩ : ∃ K : Nat, L = (K : Int) := ⟨L.toNat, by omega⟩
        have hbc := before_count b3 f (by omega) K
        have hcr := count_range r d p us f K
        have hr := (chk_parts b3).1
        have hrr : 1 ≤ r ∧ r ≤ 1048576 := by unfold badC at hr; omega
        have hcy := fun (A : Option Addr) (c : Nat) w hW => cap_yes r d p f (f + L) A us.length c us w b3 (by omega) (by omega) (by omega) hW (by rw [hK]; omega) (by rw [hK]; omega)
        have hvr : 0 ≤ count r d p us f K * r ∧ count r d p us f K * r ≤ 1000000000 := by
          refine ⟨Int.mul_nonneg hcr.1 (by omega), ?_⟩
          have := Int.mul_le_mul (show count r d p us f K ≤ 500 by omega) (show r ≤ 1048576 by omega) (by omega) (by decide)
          omega
        obtain ⟨V, hV⟩ : ∃ V, count r d p us f K * r = V := ⟨_, rfl⟩
        rw [show r * (before p us (f + L) - before p us f) = V by rw [← hV, hK, hbc, Int.mul_comm]; congr 1; omega] at hcy
        rw [hV] at hvr
        have HY := Lib.hid hcy
        have hKl : K ≤ 500 := by omega
        have HCR := Lib.hid (count_range r d p us f)
        have HC0 := Lib.hid (show count r d p us f 0 = 0 by unfold count; rfl)
        have HCS := Lib.hid (count_succ r d p us f)
        have HV := Lib.hid (show IntKind.i64.wrap (count r d p us f K * r) = V by rw [hV]; exact IntWalk.i64_in _ ⟨by omega, by omega⟩)
        have HKK := Lib.hid hK
        have hKK2 : (K : Int) ≤ 500 := by omega
        clear hbc hcr hr hcy hV b3 hvr hK
        go_enter Try.func6, Try.ntmps6
        go_wp2_with (first | ((with_reducible refine (known_any _).mono ?_); rintro e w1 ⟨rfl, hb⟩; replace hM := hM.step hb; clear hb) | ((with_reducible refine (HC.out _ hM.below).mono ?_); rintro e w1 ⟨A1, c1', rfl, hb⟩; replace hM := hM.newThing hb; clear hb) | ((with_reducible refine (config_in (wT_in hM (List.Mem.head _)) HU.out).mono ?_); rintro e w1 ⟨A2, c2, rfl, hb⟩; replace hM := hM.newThing hb; clear hb) | ((with_reducible refine (HK.out _ _ _ (wT_in hM (List.Mem.tail _ (List.Mem.head _)))).mono ?_); rintro e w1 ⟨rfl, hb⟩; replace hM := hM.step hb; clear hb) | ((first | with_reducible refine at_load ?_ | ((with_reducible refine at_load_g ?_ ?_); (· rfl))); first | refine lc hM ?_ | refine ll hM ?_ | refine lp hM ?_) | ((with_reducible refine at_store ?_); first | (refine ls hM ?_; clear hM; intro wx hM) | (refine lw hM ?_; clear hM; intro wx hM) | (refine lt hM ?_; clear hM; intro wx hM)) | ((with_reducible refine at_alloc ?_); refine lz hM ?_; clear hM; intro gx wx hM) | ((with_reducible refine at_box ?_); refine lb hM ?_; clear hM; intro gx wx hM))
        obtain ⟨gx, hgx⟩ := hM.name1
        obtain ⟨gc, hgc⟩ := (hM.subL (List.sublist_cons_self _ _)).name1
        subst hgx hgc
        have M0 := Lib.hid hM
        clear hM HC HK
        go_loopw [10, 9] (fun i u wr => ∃ (k : Nat), k ≤ K ∧ i = .int .i64 (f + (k : Int)) ∧ u = .int .i64 (count r d p us f k) ∧ Mem [] w [⟨gx, 27, 4, cfgCs r d p A2 us.length c2⟩, ⟨gc, 42, 4, cfgCs r d p A1 us.length c1'⟩] [winT (.slice A2 us.length c2) us, wT (.slice A1 us.length c1') us] wr) (fun i _ _ => (f + K - intOf i).toNat)
        case atStart => exact ⟨0, by omega, by rw [show f + ((0 : Nat) : Int) = f by omega], by rw [HC0.out], M0.out⟩
        case round =>
          obtain ⟨k, hk, rfl, rfl, hM⟩ := hrel
          clear M0
          obtain ⟨c0, c1⟩ := HCR.out k
          have hcs := HCS.out k
          obtain ⟨N, hN⟩ : ∃ N, count r d p us f k = N := ⟨_, rfl⟩
          obtain ⟨i, hi⟩ : ∃ i, f + (k : Int) = i := ⟨_, rfl⟩
          rw [hi, hN] at hcs
          rw [hN] at c0 c1
          rw [hN, hi]
          by_cases hlt : k < K
          · have e1 : decide (i < f + L) = true := decide_eq_true (by have := HKK.out; omega)
            have hi2 : f + ((k + 1 : Nat) : Int) = i + 1 := by omega
            cases hcc : connected r d p us i with
            | true =>
              rw [hcc] at hcs
              have HCS2 := Lib.hid hcs
              have HCC := Lib.hid hcc
              have HI2 := Lib.hid hi2
              have hib : 0 ≤ i ∧ i ≤ 10000000 := by have := HKK.out; omega
              have hm : (f + (K : Int) - (i + 1)).toNat < (f + (K : Int) - i).toNat := by omega
              have HMM := Lib.hid hm
              clear hcs hcc hi2 hi hN hm
              go_wp2_with (first | ((with_reducible refine (HX.out _ (by omega) _ _ _ (wT_in hM (List.Mem.tail _ (List.Mem.head _)))).mono ?_); rintro e w1 ⟨rfl, hb⟩; replace hM := hM.step hb; clear hb; rw [HCC.out]) | ((first | with_reducible refine at_load ?_ | ((with_reducible refine at_load_g ?_ ?_); (· rfl))); first | refine lc hM ?_ | refine ll hM ?_ | refine lp hM ?_) | ((with_reducible refine at_store ?_); first | (refine ls hM ?_; clear hM; intro wx hM) | (refine lw hM ?_; clear hM; intro wx hM) | (refine lt hM ?_; clear hM; intro wx hM)) | ((with_reducible refine at_alloc ?_); refine lz hM ?_; clear hM; intro gx wx hM) | ((with_reducible refine at_box ?_); refine lb hM ?_; clear hM; intro gx wx hM))
              exact ⟨⟨k + 1, by omega, by rw [HI2.out], by rw [HCS2.out]; rfl, hM⟩, HMM.out⟩
            | false =>
              rw [hcc] at hcs
              have HCS2 := Lib.hid hcs
              have HCC := Lib.hid hcc
              have HI2 := Lib.hid hi2
              have hib : 0 ≤ i ∧ i ≤ 10000000 := by have := HKK.out; omega
              have hm : (f + (K : Int) - (i + 1)).toNat < (f + (K : Int) - i).toNat := by omega
              have HMM := Lib.hid hm
              clear hcs hcc hi2 hi hN hm
              go_wp2_with (first | ((with_reducible refine (HX.out _ (by omega) _ _ _ (wT_in hM (List.Mem.tail _ (List.Mem.head _)))).mono ?_); rintro e w1 ⟨rfl, hb⟩; replace hM := hM.step hb; clear hb; rw [HCC.out]) | ((first | with_reducible refine at_load ?_ | ((with_reducible refine at_load_g ?_ ?_); (· rfl))); first | refine lc hM ?_ | refine ll hM ?_ | refine lp hM ?_) | ((with_reducible refine at_store ?_); first | (refine ls hM ?_; clear hM; intro wx hM) | (refine lw hM ?_; clear hM; intro wx hM) | (refine lt hM ?_; clear hM; intro wx hM)) | ((with_reducible refine at_alloc ?_); refine lz hM ?_; clear hM; intro gx wx hM) | ((with_reducible refine at_box ?_); refine lb hM ?_; clear hM; intro gx wx hM))
              exact ⟨⟨k + 1, by omega, by rw [HI2.out], by rw [HCS2.out]; simp, hM⟩, HMM.out⟩
          · obtain rfl : k = K := by omega
            have e1 : decide (i < f + L) = false := decide_eq_false (by have := HKK.out; omega)
            have w1 := HV.out
            rw [hN] at w1
            have w2 : IntKind.i64.wrap (f + L) = f + L := IntWalk.i64_in _ ⟨by omega, by omega⟩
            clear hcs hN hi
            go_wp2_with (first | ((first | with_reducible refine at_load ?_ | ((with_reducible refine at_load_g ?_ ?_); (· rfl))); first | refine lc hM ?_ | refine ll hM ?_ | refine lp hM ?_) | ((with_reducible refine at_store ?_); first | (refine ls hM ?_; clear hM; intro wx hM) | (refine lw hM ?_; clear hM; intro wx hM) | (refine lt hM ?_; clear hM; intro wx hM)) | ((with_reducible refine at_alloc ?_); refine lz hM ?_; clear hM; intro gx wx hM) | ((with_reducible refine at_box ?_); refine lb hM ?_; clear hM; intro gx wx hM))
            refine Go.Bul.wp_region_class (Mem _ w _ _) (by kernel_rfl) (by kernel_rfl) hM.drew ?_
            repeat ((with_reducible refine wpQuiet_step (fun K hK => ?_)); (first | ((first | ((with_reducible refine quiet_some ?_ ?_); (· rfl)) | ((with_reducible refine quiet_wanted ?_ ?_); (· rfl))); apply Exists.intro; refine ⟨fun w' hM' => ?_, ?_⟩; (· first | (go_simp; rfl) | exact qc hM' | (go_simp; with_reducible refine at_calls ?_; first | exact quiet_mem_call hM' (HY.out _ _ _ (winT_in hM' (List.Mem.head _)))) | exact ql hM' | exact qp hM')) | ((with_reducible refine quiet_unwanted ?_ ?_); (· rfl))); go_simp; (with_reducible refine hK _ ?_); clear hK K)
            refine wpQuiet_nil ?_
            intro wx hM
            go_wp2_with fail
            go_ret
            exact ⟨rfl, hM.below⟩
      · obtain ⟨z, hz⟩ : ∃ z, chk r d p us = z := ⟨_, rfl⟩
        have HZ := Lib.hid (fun (A : Option Addr) (c : Nat) w hW => cap_zero r d p f (f + L) A us.length c us w (by omega) hW (.inr (.inr (.inr b3))))
        rw [hz] at HK b3
        have t3 : (z != 0) = true := by simpa using b3
        clear hz b3
        go_enter Try.func6, Try.ntmps6
        go_wp2_with (first | ((with_reducible refine (known_any _).mono ?_); rintro e w1 ⟨rfl, hb⟩; replace hM := hM.step hb; clear hb) | ((with_reducible refine (HC.out _ hM.below).mono ?_); rintro e w1 ⟨A1, c1', rfl, hb⟩; replace hM := hM.newThing hb; clear hb) | ((with_reducible refine (config_in (wT_in hM (List.Mem.head _)) HU.out).mono ?_); rintro e w1 ⟨A2, c2, rfl, hb⟩; replace hM := hM.newThing hb; clear hb) | ((with_reducible refine (HK.out _ _ _ (wT_in hM (List.Mem.tail _ (List.Mem.head _)))).mono ?_); rintro e w1 ⟨rfl, hb⟩; replace hM := hM.step hb; clear hb) | ((with_reducible refine (HZ.out _ _ _ (winT_in hM (List.Mem.head _))).mono ?_); rintro e w1 ⟨rfl, hb⟩; replace hM := hM.step hb; clear hb) | ((first | with_reducible refine at_load ?_ | ((with_reducible refine at_load_g ?_ ?_); (· rfl))); first | refine lc hM ?_ | refine ll hM ?_ | refine lp hM ?_) | ((with_reducible refine at_store ?_); first | (refine ls hM ?_; clear hM; intro wx hM) | (refine lw hM ?_; clear hM; intro wx hM) | (refine lt hM ?_; clear hM; intro wx hM)) | ((with_reducible refine at_alloc ?_); refine lz hM ?_; clear hM; intro gx wx hM) | ((with_reducible refine at_box ?_); refine lb hM ?_; clear hM; intro gx wx hM))
        go_ret
        exact ⟨rfl, hM.below⟩
set_option maxRecDepth 20000 in
set_option maxHeartbeats 8000000 in
theorem linecap_big (r d p f l : Int) (A : Option Addr) (n c : Nat) (ws : List Win) (w : World) (hf : 0 ≤ f) (hl : 500 < l) (hI : WinsIn w A n c ws) :
    Calls Try.prog 6 #[cfgV r d p A n c, .int .i64 f, .int .i64 l] w fun e w' => e = .returned (.bool true) ∧ Below w.heap.size w w' := by
  have hM := Mem.start [] w
  have HC := Lib.hid (fun w' hb => cut_in (r := r) (d := d) (p := p) (hI.keep (w' := w') hb))
  obtain ⟨us, hus⟩ : ∃ us, ws.take 40 = us := ⟨_, rfl⟩
  have hul : us.length ≤ 40 := by rw [← hus, List.length_take]; omega
  rw [hus] at HC
  have HU := Lib.hid hul
  clear hus hI
  have HK := Lib.hid (fun (A : Option Addr) (c : Nat) w hW => rcheck_any r d p A us.length c us w (by omega) hW)
  have d1 : decide (f < 0) = false := decide_eq_false (by omega)
  have d2 : decide (500 < l) = true := decide_eq_true hl
  obtain ⟨L, hL⟩ : ∃ L, l % 500 = L := ⟨_, rfl⟩
  have hl0 : 0 ≤ l := by omega
  have hl1 : 0 ≤ L := by omega
  have hl2 : L ≤ 500 := by omega
  have d3 : decide (L < 0) = false := decide_eq_false (by omega)
  by_cases b1 : 10000000 < f
  · have t1 : decide (10000000 < f) = true := decide_eq_true b1
    have HZ := Lib.hid (fun (A : Option Addr) (c : Nat) w hW => cap_zero r d p f f A us.length c us w (by omega) hW (.inr (.inl (Int.le_refl _))))
    go_enter Try.func6, Try.ntmps6
    go_wp2_with (first | ((with_reducible refine (known_any _).mono ?_); rintro e w1 ⟨rfl, hb⟩; replace hM := hM.step hb; clear hb) | ((with_reducible refine (HC.out _ hM.below).mono ?_); rintro e w1 ⟨A1, c1', rfl, hb⟩; replace hM := hM.newThing hb; clear hb) | ((with_reducible refine (config_in (wT_in hM (List.Mem.head _)) HU.out).mono ?_); rintro e w1 ⟨A2, c2, rfl, hb⟩; replace hM := hM.newThing hb; clear hb) | ((with_reducible refine (HK.out _ _ _ (wT_in hM (List.Mem.tail _ (List.Mem.head _)))).mono ?_); rintro e w1 ⟨rfl, hb⟩; replace hM := hM.step hb; clear hb) | ((with_reducible refine (HZ.out _ _ _ (winT_in hM (List.Mem.head _))).mono ?_); rintro e w1 ⟨rfl, hb⟩; replace hM := hM.step hb; clear hb) | ((first | with_reducible refine at_load ?_ | ((with_reducible refine at_load_g ?_ ?_); (· rfl))); first | refine lc hM ?_ | refine ll hM ?_ | refine lp hM ?_) | ((with_reducible refine at_store ?_); first | (refine ls hM ?_; clear hM; intro wx hM) | (refine lw hM ?_; clear hM; intro wx hM) | (refine lt hM ?_; clear hM; intro wx hM)) | ((with_reducible refine at_alloc ?_); refine lz hM ?_; clear hM; intro gx wx hM) | ((with_reducible refine at_box ?_); refine lb hM ?_; clear hM; intro gx wx hM))
    go_ret
    exact ⟨rfl, hM.below⟩
  · have t1 : decide (10000000 < f) = false := decide_eq_false b1
    by_cases b2 : 10000000 < f + L
    · have t2 : decide (10000000 < f + L) = true := decide_eq_true b2
      have HZ := Lib.hid (fun (A : Option Addr) (c : Nat) w hW => cap_zero r d p f (f + L) A us.length c us w (by omega) hW (.inr (.inr (.inl b2))))
      go_enter Try.func6, Try.ntmps6
      go_wp2_with (first | ((with_reducible refine (known_any _).mono ?_); rintro e w1 ⟨rfl, hb⟩; replace hM := hM.step hb; clear hb) | ((with_reducible refine (HC.out _ hM.below).mono ?_); rintro e w1 ⟨A1, c1', rfl, hb⟩; replace hM := hM.newThing hb; clear hb) | ((with_reducible refine (config_in (wT_in hM (List.Mem.head _)) HU.out).mono ?_); rintro e w1 ⟨A2, c2, rfl, hb⟩; replace hM := hM.newThing hb; clear hb) | ((with_reducible refine (HK.out _ _ _ (wT_in hM (List.Mem.tail _ (List.Mem.head _)))).mono ?_); rintro e w1 ⟨rfl, hb⟩; replace hM := hM.step hb; clear hb) | ((with_reducible refine (HZ.out _ _ _ (winT_in hM (List.Mem.head _))).mono ?_); rintro e w1 ⟨rfl, hb⟩; replace hM := hM.step hb; clear hb) | ((first | with_reducible refine at_load ?_ | ((with_reducible refine at_load_g ?_ ?_); (· rfl))); first | refine lc hM ?_ | refine ll hM ?_ | refine lp hM ?_) | ((with_reducible refine at_store ?_); first | (refine ls hM ?_; clear hM; intro wx hM) | (refine lw hM ?_; clear hM; intro wx hM) | (refine lt hM ?_; clear hM; intro wx hM)) | ((with_reducible refine at_alloc ?_); refine lz hM ?_; clear hM; intro gx wx hM) | ((with_reducible refine at_box ?_); refine lb hM ?_; clear hM; intro gx wx hM))
      go_ret
      exact ⟨rfl, hM.below⟩
    · have t2 : decide (10000000 < f + L) = false := decide_eq_false b2
      by_cases b3 : chk r d p us = 0
      · rw [b3] at HK
        have HX := Lib.hid (fun (j : Int) (hj : j ≤ 10000000) (A : Option Addr) (c : Nat) w hW => rconn_any r d p j A us.length c us w (by omega) (by omega) hW)
        obtain ⟨K, hK⟩ : ∃ K : Nat, L = (K : Int) := ⟨L.toNat, by omega⟩
        have hbc := before_count b3 f (by omega) K
        have hcr := count_range r d p us f K
        have hr := (chk_parts b3).1
        have hrr : 1 ≤ r ∧ r ≤ 1048576 := by unfold badC at hr; omega
        have hcy := fun (A : Option Addr) (c : Nat) w hW => cap_yes r d p f (f + L) A us.length c us w b3 (by omega) (by omega) (by omega) hW (by rw [hK]; omega) (by rw [hK]; omega)
        have hvr : 0 ≤ count r d p us f K * r ∧ count r d p us f K * r ≤ 1000000000 := by
          refine ⟨Int.mul_nonneg hcr.1 (by omega), ?_⟩
          have := Int.mul_le_mul (show count r d p us f K ≤ 500 by omega) (show r ≤ 1048576 by omega) (by omega) (by decide)
          omega
        obtain ⟨V, hV⟩ : ∃ V, count r d p us f K * r = V := ⟨_, rfl⟩
        rw [show r * (before p us (f + L) - before p us f) = V by rw [← hV, hK, hbc, Int.mul_comm]; congr 1; omega] at hcy
        rw [hV] at hvr
        have HY := Lib.hid hcy
        have hKl : K ≤ 500 := by omega
        have HCR := Lib.hid (count_range r d p us f)
        have HC0 := Lib.hid (show count r d p us f 0 = 0 by unfold count; rfl)
        have HCS := Lib.hid (count_succ r d p us f)
        have HV := Lib.hid (show IntKind.i64.wrap (count r d p us f K * r) = V by rw [hV]; exact IntWalk.i64_in _ ⟨by omega, by omega⟩)
        have HKK := Lib.hid hK
        have hKK2 : (K : Int) ≤ 500 := by omega
        clear hbc hcr hr hcy hV b3 hvr hK
        go_enter Try.func6, Try.ntmps6
        go_wp2_with (first | ((with_reducible refine (known_any _).mono ?_); rintro e w1 ⟨rfl, hb⟩; replace hM := hM.step hb; clear hb) | ((with_reducible refine (HC.out _ hM.below).mono ?_); rintro e w1 ⟨A1, c1', rfl, hb⟩; replace hM := hM.newThing hb; clear hb) | ((with_reducible refine (config_in (wT_in hM (List.Mem.head _)) HU.out).mono ?_); rintro e w1 ⟨A2, c2, rfl, hb⟩; replace hM := hM.newThing hb; clear hb) | ((with_reducible refine (HK.out _ _ _ (wT_in hM (List.Mem.tail _ (List.Mem.head _)))).mono ?_); rintro e w1 ⟨rfl, hb⟩; replace hM := hM.step hb; clear hb) | ((first | with_reducible refine at_load ?_ | ((with_reducible refine at_load_g ?_ ?_); (· rfl))); first | refine lc hM ?_ | refine ll hM ?_ | refine lp hM ?_) | ((with_reducible refine at_store ?_); first | (refine ls hM ?_; clear hM; intro wx hM) | (refine lw hM ?_; clear hM; intro wx hM) | (refine lt hM ?_; clear hM; intro wx hM)) | ((with_reducible refine at_alloc ?_); refine lz hM ?_; clear hM; intro gx wx hM) | ((with_reducible refine at_box ?_); refine lb hM ?_; clear hM; intro gx wx hM))
        obtain ⟨gx, hgx⟩ := hM.name1
        obtain ⟨gc, hgc⟩ := (hM.subL (List.sublist_cons_self _ _)).name1
        subst hgx hgc
        have M0 := Lib.hid hM
        clear hM HC HK
        go_loopw [10, 9] (fun i u wr => ∃ (k : Nat), k ≤ K ∧ i = .int .i64 (f + (k : Int)) ∧ u = .int .i64 (count r d p us f k) ∧ Mem [] w [⟨gx, 27, 4, cfgCs r d p A2 us.length c2⟩, ⟨gc, 42, 4, cfgCs r d p A1 us.length c1'⟩] [winT (.slice A2 us.length c2) us, wT (.slice A1 us.length c1') us] wr) (fun i _ _ => (f + K - intOf i).toNat)
        case atStart => exact ⟨0, by omega, by rw [show f + ((0 : Nat) : Int) = f by omega], by rw [HC0.out], M0.out⟩
        case round =>
          obtain ⟨k, hk, rfl, rfl, hM⟩ := hrel
          clear M0
          obtain ⟨c0, c1⟩ := HCR.out k
          have hcs := HCS.out k
          obtain ⟨N, hN⟩ : ∃ N, count r d p us f k = N := ⟨_, rfl⟩
          obtain ⟨i, hi⟩ : ∃ i, f + (k : Int) = i := ⟨_, rfl⟩
          rw [hi, hN] at hcs
          rw [hN] at c0 c1
          rw [hN, hi]
          by_cases hlt : k < K
          · have e1 : decide (i < f + L) = true := decide_eq_true (by have := HKK.out; omega)
            have hi2 : f + ((k + 1 : Nat) : Int) = i + 1 := by omega
            cases hcc : connected r d p us i with
            | true =>
              rw [hcc] at hcs
              have HCS2 := Lib.hid hcs
              have HCC := Lib.hid hcc
              have HI2 := Lib.hid hi2
              have hib : 0 ≤ i ∧ i ≤ 10000000 := by have := HKK.out; omega
              have hm : (f + (K : Int) - (i + 1)).toNat < (f + (K : Int) - i).toNat := by omega
              have HMM := Lib.hid hm
              clear hcs hcc hi2 hi hN hm
              go_wp2_with (first | ((with_reducible refine (HX.out _ (by omega) _ _ _ (wT_in hM (List.Mem.tail _ (List.Mem.head _)))).mono ?_); rintro e w1 ⟨rfl, hb⟩; replace hM := hM.step hb; clear hb; rw [HCC.out]) | ((first | with_reducible refine at_load ?_ | ((with_reducible refine at_load_g ?_ ?_); (· rfl))); first | refine lc hM ?_ | refine ll hM ?_ | refine lp hM ?_) | ((with_reducible refine at_store ?_); first | (refine ls hM ?_; clear hM; intro wx hM) | (refine lw hM ?_; clear hM; intro wx hM) | (refine lt hM ?_; clear hM; intro wx hM)) | ((with_reducible refine at_alloc ?_); refine lz hM ?_; clear hM; intro gx wx hM) | ((with_reducible refine at_box ?_); refine lb hM ?_; clear hM; intro gx wx hM))
              exact ⟨⟨k + 1, by omega, by rw [HI2.out], by rw [HCS2.out]; rfl, hM⟩, HMM.out⟩
            | false =>
              rw [hcc] at hcs
              have HCS2 := Lib.hid hcs
              have HCC := Lib.hid hcc
              have HI2 := Lib.hid hi2
              have hib : 0 ≤ i ∧ i ≤ 10000000 := by have := HKK.out; omega
              have hm : (f + (K : Int) - (i + 1)).toNat < (f + (K : Int) - i).toNat := by omega
              have HMM := Lib.hid hm
              clear hcs hcc hi2 hi hN hm
              go_wp2_with (first | ((with_reducible refine (HX.out _ (by omega) _ _ _ (wT_in hM (List.Mem.tail _ (List.Mem.head _)))).mono ?_); rintro e w1 ⟨rfl, hb⟩; replace hM := hM.step hb; clear hb; rw [HCC.out]) | ((first | with_reducible refine at_load ?_ | ((with_reducible refine at_load_g ?_ ?_); (· rfl))); first | refine lc hM ?_ | refine ll hM ?_ | refine lp hM ?_) | ((with_reducible refine at_store ?_); first | (refine ls hM ?_; clear hM; intro wx hM) | (refine lw hM ?_; clear hM; intro wx hM) | (refine lt hM ?_; clear hM; intro wx hM)) | ((with_reducible refine at_alloc ?_); refine lz hM ?_; clear hM; intro gx wx hM) | ((with_reducible refine at_box ?_); refine lb hM ?_; clear hM; intro gx wx hM))
              exact ⟨⟨k + 1, by omega, by rw [HI2.out], by rw [HCS2.out]; simp, hM⟩, HMM.out⟩
          · obtain rfl : k = K := by omega
            have e1 : decide (i < f + L) = false := decide_eq_false (by have := HKK.out; omega)
            have w1 := HV.out
            rw [hN] at w1
            have w2 : IntKind.i64.wrap (f + L) = f + L := IntWalk.i64_in _ ⟨by omega, by omega⟩
            clear hcs hN hi
            go_wp2_with (first | ((first | with_reducible refine at_load ?_ | ((with_reducible refine at_load_g ?_ ?_); (· rfl))); first | refine lc hM ?_ | refine ll hM ?_ | refine lp hM ?_) | ((with_reducible refine at_store ?_); first | (refine ls hM ?_; clear hM; intro wx hM) | (refine lw hM ?_; clear hM; intro wx hM) | (refine lt hM ?_; clear hM; intro wx hM)) | ((with_reducible refine at_alloc ?_); refine lz hM ?_; clear hM; intro gx wx hM) | ((with_reducible refine at_box ?_); refine lb hM ?_; clear hM; intro gx wx hM))
            refine Go.Bul.wp_region_class (Mem _ w _ _) (by kernel_rfl) (by kernel_rfl) hM.drew ?_
            repeat ((with_reducible refine wpQuiet_step (fun K hK => ?_)); (first | ((first | ((with_reducible refine quiet_some ?_ ?_); (· rfl)) | ((with_reducible refine quiet_wanted ?_ ?_); (· rfl))); apply Exists.intro; refine ⟨fun w' hM' => ?_, ?_⟩; (· first | (go_simp; rfl) | exact qc hM' | (go_simp; with_reducible refine at_calls ?_; first | exact quiet_mem_call hM' (HY.out _ _ _ (winT_in hM' (List.Mem.head _)))) | exact ql hM' | exact qp hM')) | ((with_reducible refine quiet_unwanted ?_ ?_); (· rfl))); go_simp; (with_reducible refine hK _ ?_); clear hK K)
            refine wpQuiet_nil ?_
            intro wx hM
            go_wp2_with fail
            go_ret
            exact ⟨rfl, hM.below⟩
      · obtain ⟨z, hz⟩ : ∃ z, chk r d p us = z := ⟨_, rfl⟩
        have HZ := Lib.hid (fun (A : Option Addr) (c : Nat) w hW => cap_zero r d p f (f + L) A us.length c us w (by omega) hW (.inr (.inr (.inr b3))))
        rw [hz] at HK b3
        have t3 : (z != 0) = true := by simpa using b3
        clear hz b3
        go_enter Try.func6, Try.ntmps6
        go_wp2_with (first | ((with_reducible refine (known_any _).mono ?_); rintro e w1 ⟨rfl, hb⟩; replace hM := hM.step hb; clear hb) | ((with_reducible refine (HC.out _ hM.below).mono ?_); rintro e w1 ⟨A1, c1', rfl, hb⟩; replace hM := hM.newThing hb; clear hb) | ((with_reducible refine (config_in (wT_in hM (List.Mem.head _)) HU.out).mono ?_); rintro e w1 ⟨A2, c2, rfl, hb⟩; replace hM := hM.newThing hb; clear hb) | ((with_reducible refine (HK.out _ _ _ (wT_in hM (List.Mem.tail _ (List.Mem.head _)))).mono ?_); rintro e w1 ⟨rfl, hb⟩; replace hM := hM.step hb; clear hb) | ((with_reducible refine (HZ.out _ _ _ (winT_in hM (List.Mem.head _))).mono ?_); rintro e w1 ⟨rfl, hb⟩; replace hM := hM.step hb; clear hb) | ((first | with_reducible refine at_load ?_ | ((with_reducible refine at_load_g ?_ ?_); (· rfl))); first | refine lc hM ?_ | refine ll hM ?_ | refine lp hM ?_) | ((with_reducible refine at_store ?_); first | (refine ls hM ?_; clear hM; intro wx hM) | (refine lw hM ?_; clear hM; intro wx hM) | (refine lt hM ?_; clear hM; intro wx hM)) | ((with_reducible refine at_alloc ?_); refine lz hM ?_; clear hM; intro gx wx hM) | ((with_reducible refine at_box ?_); refine lb hM ?_; clear hM; intro gx wx hM))
        go_ret
        exact ⟨rfl, hM.below⟩
theorem linecap_any (r d p f l : Int) (A : Option Addr) (n c : Nat) (ws : List Win) (w : World) (hI : WinsIn w A n c ws) :
    Calls Try.prog 6 #[cfgV r d p A n c, .int .i64 f, .int .i64 l] w fun e w' => e = .returned (.bool true) ∧ Below w.heap.size w w' := by
  by_cases hf : f < 0
  · exact linecap_neg r d p f l A n c ws w hf hI
  · by_cases hl : l < 0
    · exact linecap_neg2 r d p f l A n c ws w (by omega) hl hI
    · by_cases h5 : 500 < l
      · exact linecap_big r d p f l A n c ws w (by omega) h5 hI
      · exact linecap_small r d p f l A n c ws w (by omega) (by omega) (by omega) hI
end Go.Proofs.Ytenflgbaibjeoaa
