/- LineNext: the walk. -/
import Derived.Test.YtenflgbaibjeoaaLqa
import Derived.Test.YtenflgbaibjeoaaLqc
namespace Go.Lin
theorem phase_pos {p m : Int} (hm : 0 ≤ m) : 0 ≤ phase p m := by
  unfold phase
  split
  · exact hm
  · exact Int.emod_nonneg m (by omega)
theorem nextP_le {r d p : Int} {ws : List Win} (hc : chk r d p ws = 0) {T x : Int} (hT : 0 ≤ T) (h : nextP p ws T = some x) : x ≤ T + 20000000 := by
  obtain ⟨hb, _, hp, hv⟩ := chk_parts hc
  have hm : mostOf p ≤ 10000000 := by unfold badC at hb; unfold mostOf; split <;> omega
  have hp2 : p ≤ 10000000 := by unfold badC at hb; omega
  have hq := phase_pos (p := p) hT
  unfold nextP at h
  cases hf : findP (phase p T) ws with
  | some y =>
    rw [hf] at h
    simp only [Option.some.injEq] at h
    have := (findP_some hv hf).2
    omega
  | none =>
    rw [hf] at h
    cases ws with
    | nil => cases h
    | cons w ws =>
      obtain ⟨f, t⟩ := w
      have h1 := valid_mem hv (f, t) (List.mem_cons_self ..)
      by_cases h0 : p = 0
      · simp [h0] at h
      · simp only [h0, if_false, Option.some.injEq] at h
        simp only at h1
        omega
theorem connected_on {r d p : Int} {ws : List Win} (hc : chk r d p ws = 0) {j : Int} (hj : 0 ≤ j) : connected r d p ws j = onAt p ws j := by simp [connected, hc, onAt]; omega
/-- What Next says of the minutes. -/
theorem nextO_some {r d p m x : Int} {ws : List Win} (h : nextO r d p ws m = some x) : m ≤ 1099511627776 ∧ 0 ≤ x ∧ x ≤ 1099531627776 ∧ connected r d p ws x = true ∧ ∀ j, max m 0 ≤ j → j < x → connected r d p ws j = false := by
  unfold nextO at h
  by_cases hb : 1099511627776 < m ∨ chk r d p ws ≠ 0
  · rw [if_pos hb] at h; cases h
  · rw [if_neg hb] at h
    have hc : chk r d p ws = 0 := by omega
    have h1 := nextP_some hc h
    have h2 := nextP_le hc (by omega) h
    obtain ⟨i1, i2, i3⟩ := h1
    exact ⟨by omega, by omega, by omega, by rw [connected_on hc (by omega)]; exact i2, fun j h3 h4 => by rw [connected_on hc (by omega)]; exact i3 j h3 h4⟩
end Go.Lin
namespace Go.Proofs.Ytenflgbaibjeoaa
open Go Go.RowKit Go.Bul Go.Thg Go.Lin
attribute [local irreducible] nextO connected chk
set_option maxRecDepth 20000 in
set_option maxHeartbeats 4000000 in
theorem linenext_any (r d p m : Int) (A : Option Addr) (n c : Nat) (ws : List Win) (w : World) (hI : WinsIn w A n c ws) :
    Calls Try.prog 7 #[cfgV r d p A n c, .int .i64 m] w fun e w' => e = .returned (.bool true) ∧ Below w.heap.size w w' := by
  have hM := Mem.start [] w
  have HC := Lib.hid (fun w' hb => cut_in (r := r) (d := d) (p := p) (hI.keep (w' := w') hb))
  obtain ⟨us, hus⟩ : ∃ us, ws.take 40 = us := ⟨_, rfl⟩
  have hul : us.length ≤ 40 := by rw [← hus, List.length_take]; omega
  rw [hus] at HC
  have HU := Lib.hid hul
  clear hus hI
  have HN := Lib.hid (fun (A : Option Addr) (c : Nat) w hW => next_any r d p m A us.length c us w (by omega) hW)
  have HR := Lib.hid (fun (A : Option Addr) (c : Nat) w hW => rnext_any r d p m A us.length c us w (by omega) hW)
  have HQ := Lib.hid (fun (j : Int) (hj : j ≤ 9223372036854775807) (A : Option Addr) (c : Nat) w hW => conn_any r d p j A us.length c us w hj (by omega) hW)
  cases hO : nextO r d p us m with
  | none =>
    rw [hO] at HN HR
    simp only [nextE] at HN
    simp only [zOf] at HR
    clear hO hul
    go_enter Try.func7, Try.ntmps7
    go_wp2_with (first | ((with_reducible refine (known_any _).mono ?_); rintro e w1 ⟨rfl, hb⟩; replace hM := hM.step hb; clear hb) | ((with_reducible refine (HC.out _ hM.below).mono ?_); rintro e w1 ⟨A1, c1', rfl, hb⟩; replace hM := hM.newThing hb; clear hb) | ((with_reducible refine (config_in (wT_in hM (List.Mem.head _)) HU.out).mono ?_); rintro e w1 ⟨A2, c2, rfl, hb⟩; replace hM := hM.newThing hb; clear hb) | ((with_reducible refine (HR.out _ _ _ (wT_in hM (List.Mem.tail _ (List.Mem.head _)))).mono ?_); rintro e w1 ⟨rfl, hb⟩; replace hM := hM.step hb; clear hb) | ((with_reducible refine (HN.out _ _ _ (winT_in hM (List.Mem.head _))).mono ?_); rintro e w1 ⟨rfl, hb⟩; replace hM := hM.step hb; clear hb) | ((first | with_reducible refine at_load ?_ | ((with_reducible refine at_load_g ?_ ?_); (· rfl))); first | refine lc hM ?_ | refine ll hM ?_ | refine lp hM ?_) | ((with_reducible refine at_store ?_); first | (refine ls hM ?_; clear hM; intro wx hM) | (refine lw hM ?_; clear hM; intro wx hM) | (refine lt hM ?_; clear hM; intro wx hM)) | ((with_reducible refine at_alloc ?_); refine lz hM ?_; clear hM; intro gx wx hM) | ((with_reducible refine at_box ?_); refine lb hM ?_; clear hM; intro gx wx hM))
    refine wp_loop_rounds 1 ?_
    rw [rounds_succ]
    go_wp2_with fail
    go_ret
    exact ⟨rfl, hM.below⟩
  | some x =>
    rw [hO] at HN HR
    simp only [nextE] at HN
    simp only [zOf] at HR
    obtain ⟨h1, h2, h3, h4, h5⟩ := nextO_some hO
    obtain ⟨T, hT⟩ : ∃ T : Int, (if m < 0 then (0 : Int) else m) = T := ⟨_, rfl⟩
    have hT2 : (m < 0 ∧ T = 0) ∨ (0 ≤ m ∧ T = m) := by split at hT <;> omega
    rw [show max m 0 = T by omega] at h5
    have HX := Lib.hid h4
    have H5 := Lib.hid h5
    have d1 : decide (0 ≤ x) = true := decide_eq_true h2
    have d2 : (if x < 0 then (0 : Int) else x) = x := if_neg (by omega)
    have hT0 : 0 ≤ T := by omega
    have hT1 : T ≤ 1099511627776 := by omega
    clear hO hul hT2 h4 h5 h1
    go_enter Try.func7, Try.ntmps7
    go_wp2_with (first | ((with_reducible refine (known_any _).mono ?_); rintro e w1 ⟨rfl, hb⟩; replace hM := hM.step hb; clear hb) | ((with_reducible refine (HC.out _ hM.below).mono ?_); rintro e w1 ⟨A1, c1', rfl, hb⟩; replace hM := hM.newThing hb; clear hb) | ((with_reducible refine (config_in (wT_in hM (List.Mem.head _)) HU.out).mono ?_); rintro e w1 ⟨A2, c2, rfl, hb⟩; replace hM := hM.newThing hb; clear hb) | ((with_reducible refine (HR.out _ _ _ (wT_in hM (List.Mem.tail _ (List.Mem.head _)))).mono ?_); rintro e w1 ⟨rfl, hb⟩; replace hM := hM.step hb; clear hb) | ((with_reducible refine (HN.out _ _ _ (winT_in hM (List.Mem.head _))).mono ?_); rintro e w1 ⟨rfl, hb⟩; replace hM := hM.step hb; clear hb) | ((first | with_reducible refine at_load ?_ | ((with_reducible refine at_load_g ?_ ?_); (· rfl))); first | refine lc hM ?_ | refine ll hM ?_ | refine lp hM ?_) | ((with_reducible refine at_store ?_); first | (refine ls hM ?_; clear hM; intro wx hM) | (refine lw hM ?_; clear hM; intro wx hM) | (refine lt hM ?_; clear hM; intro wx hM)) | ((with_reducible refine at_alloc ?_); refine lz hM ?_; clear hM; intro gx wx hM) | ((with_reducible refine at_box ?_); refine lb hM ?_; clear hM; intro gx wx hM))
    obtain ⟨gx, hgx⟩ := hM.name1
    obtain ⟨gc, hgc⟩ := (hM.subL (List.sublist_cons_self _ _)).name1
    subst hgx hgc
    have M0 := Lib.hid hM
    clear hM HC HN HR
    go_loopw [9] (fun i wr => ∃ (k : Nat), k ≤ 200 ∧ i = .int .i64 (k : Nat) ∧ Mem [] w [⟨gx, 27, 4, cfgCs r d p A2 us.length c2⟩, ⟨gc, 42, 4, cfgCs r d p A1 us.length c1'⟩] [winT (.slice A2 us.length c2) us, wT (.slice A1 us.length c1') us] wr) (fun i _ => 200 - (intOf i).toNat)
    case atStart => exact ⟨0, by omega, rfl, M0.out⟩
    case round =>
      obtain ⟨k, hk, rfl, hM⟩ := hrel
      clear M0
      by_cases hlt : k < 200
      · have e0 : decide ((k : Int) < 200) = true := decide_eq_true (by omega)
        by_cases hx : T + (k : Int) < x
        · have e1 : decide (T + (k : Int) < x) = true := decide_eq_true hx
          have H6 := Lib.hid (H5.out (T + (k : Int)) (by omega) hx)
          go_wp2_with (first | ((with_reducible refine (HQ.out _ (by omega) _ _ _ (winT_in hM (List.Mem.head _))).mono ?_); rintro e w1 ⟨rfl, hb⟩; replace hM := hM.step hb; clear hb; rw [H6.out]) | ((first | with_reducible refine at_load ?_ | ((with_reducible refine at_load_g ?_ ?_); (· rfl))); first | refine lc hM ?_ | refine ll hM ?_ | refine lp hM ?_) | ((with_reducible refine at_store ?_); first | (refine ls hM ?_; clear hM; intro wx hM) | (refine lw hM ?_; clear hM; intro wx hM) | (refine lt hM ?_; clear hM; intro wx hM)) | ((with_reducible refine at_alloc ?_); refine lz hM ?_; clear hM; intro gx wx hM) | ((with_reducible refine at_box ?_); refine lb hM ?_; clear hM; intro gx wx hM))
          exact ⟨⟨k + 1, by omega, by go_num, hM⟩, by simp [intOf]; omega⟩
        · have e1 : decide (T + (k : Int) < x) = false := decide_eq_false hx
          go_wp2_with (first | ((with_reducible refine (HQ.out _ (by omega) _ _ _ (winT_in hM (List.Mem.head _))).mono ?_); rintro e w1 ⟨rfl, hb⟩; replace hM := hM.step hb; clear hb; rw [HX.out]) | ((first | with_reducible refine at_load ?_ | ((with_reducible refine at_load_g ?_ ?_); (· rfl))); first | refine lc hM ?_ | refine ll hM ?_ | refine lp hM ?_) | ((with_reducible refine at_store ?_); first | (refine ls hM ?_; clear hM; intro wx hM) | (refine lw hM ?_; clear hM; intro wx hM) | (refine lt hM ?_; clear hM; intro wx hM)) | ((with_reducible refine at_alloc ?_); refine lz hM ?_; clear hM; intro gx wx hM) | ((with_reducible refine at_box ?_); refine lb hM ?_; clear hM; intro gx wx hM))
          go_ret
          exact ⟨rfl, hM.below⟩
      · have e0 : decide ((k : Int) < 200) = false := decide_eq_false (by omega)
        go_wp2_with (first | ((with_reducible refine (HQ.out _ (by omega) _ _ _ (winT_in hM (List.Mem.head _))).mono ?_); rintro e w1 ⟨rfl, hb⟩; replace hM := hM.step hb; clear hb; rw [HX.out]) | ((first | with_reducible refine at_load ?_ | ((with_reducible refine at_load_g ?_ ?_); (· rfl))); first | refine lc hM ?_ | refine ll hM ?_ | refine lp hM ?_) | ((with_reducible refine at_store ?_); first | (refine ls hM ?_; clear hM; intro wx hM) | (refine lw hM ?_; clear hM; intro wx hM) | (refine lt hM ?_; clear hM; intro wx hM)) | ((with_reducible refine at_alloc ?_); refine lz hM ?_; clear hM; intro gx wx hM) | ((with_reducible refine at_box ?_); refine lb hM ?_; clear hM; intro gx wx hM))
        go_ret
        exact ⟨rfl, hM.below⟩
end Go.Proofs.Ytenflgbaibjeoaa
