/- Contract of the reference's Next. -/
import Derived.Test.YtenflgbaibjeoaaLcf
import Derived.Test.YtenflgbaibjeoaaLcd
import Derived.Test.YtenflgbaibjeoaaLqb
namespace Go.Proofs.Ytenflgbaibjeoaa
open Go Go.RowKit Go.Bul Go.Thg Go.Lin
theorem bestR_step {p T x : Int} {ws : List Win} {k : Nat} (h : k < ws.length) : bestR p T x (ws.drop k) = bestR p T (if T ≤ atR p T ws[k] ∧ (x < 0 ∨ atR p T ws[k] < x) then atR p T ws[k] else x) (ws.drop (k + 1)) := by
  rw [List.drop_eq_getElem_cons h]
  rfl
set_option maxRecDepth 20000 in
set_option maxHeartbeats 40000000 in
theorem rnext_yes (r d p m : Int) (A : Option Addr) (n c : Nat) (ws : List Win) (w : World) (hc : chk r d p ws = 0) (hm : m ≤ 1099511627776) (hW : Wins w A n ws) :
    Calls Try.prog 32 #[cfgV r d p A n c, .int .i64 m] w fun e w' => e = .returned (.int .i64 (nextR p ws (max m 0))) ∧ Below w.heap.size w w' := by
  have hM := Mem.start [] w
  obtain ⟨hb, hl32, hp, hv'⟩ := chk_parts hc
  have hv : ∀ x ∈ ws, 0 ≤ x.1 ∧ x.1 < x.2 ∧ x.2 ≤ 10000000 := fun x hx => by
    have h1 := valid_mem hv' x hx
    have : mostOf p ≤ 10000000 := by unfold badC at hb; unfold mostOf; split <;> omega
    omega
  have hp2 : p ≤ 10000000 := by unfold badC at hb; omega
  have HW := Lib.hid hW
  have HL := Lib.hid hW.len
  have hn32 : n ≤ 32 := by have := HL.out; omega
  have c0 : decide ((1099511627776 : Int) < m) = false := decide_eq_false (by omega)
  have HK := Lib.hid (fun w hW => rcheck_any r d p A n c ws w (by omega) hW)
  rw [hc] at HK
  clear hb hv'
  obtain ⟨T, hT⟩ : ∃ T : Int, (if m < 0 then (0 : Int) else m) = T := ⟨_, rfl⟩
  have hT2 : (m < 0 ∧ T = 0) ∨ (0 ≤ m ∧ T = m) := by split at hT <;> omega
  rw [show max m 0 = T by omega]
  have h0T : 0 ≤ T := by omega
  have h2T : T ≤ 1099511627776 := by omega
  clear hT2
  have HV := Lib.hid (fun w hW => rconn_any r d p T A n c ws w (by omega) (by omega) hW)
  have hon : connected r d p ws T = onAt p ws T := by simp [connected, hc, onAt]; omega
  rw [hon] at HV
  have HE := Lib.hid hv
  clear hc hv hW hon
  unfold nextR
  by_cases hq : onAt p ws T = true
  · rw [if_pos hq]
    rw [hq] at HV
    clear hq
    go_enter Try.func32, Try.ntmps32
    go_wp2_with (first | ((with_reducible refine (HK.out _ (HW.out.keep hM.below)).mono ?_); rintro e w1 ⟨rfl, hb1⟩; replace hM := hM.step hb1; clear hb1) | ((with_reducible refine (HV.out _ (HW.out.keep hM.below)).mono ?_); rintro e w1 ⟨rfl, hb1⟩; replace hM := hM.step hb1; clear hb1) | ((first | with_reducible refine at_load ?_ | ((with_reducible refine at_load_g ?_ ?_); (· rfl))); first | refine lc hM ?_ | refine ll hM ?_ | refine lp hM ?_) | ((with_reducible refine at_store ?_); first | (refine ls hM ?_; clear hM; intro wx hM) | (refine lw hM ?_; clear hM; intro wx hM) | (refine lt hM ?_; clear hM; intro wx hM)) | ((with_reducible refine at_alloc ?_); refine lz hM ?_; clear hM; intro gx wx hM) | ((with_reducible refine at_box ?_); refine lb hM ?_; clear hM; intro gx wx hM))
    go_ret
    exact ⟨rfl, hM.below⟩
  · rw [if_neg hq]
    rw [show onAt p ws T = false by simpa using hq] at HV
    clear hq
    obtain ⟨Z, hZ⟩ : ∃ Z, bestR p T (-1) ws = Z := ⟨_, rfl⟩
    rw [hZ]
    have HZ := Lib.hid hZ
    clear hZ
    go_enter Try.func32, Try.ntmps32
    go_wp2_with (first | ((with_reducible refine (HK.out _ (HW.out.keep hM.below)).mono ?_); rintro e w1 ⟨rfl, hb1⟩; replace hM := hM.step hb1; clear hb1) | ((with_reducible refine (HV.out _ (HW.out.keep hM.below)).mono ?_); rintro e w1 ⟨rfl, hb1⟩; replace hM := hM.step hb1; clear hb1) | ((first | with_reducible refine at_load ?_ | ((with_reducible refine at_load_g ?_ ?_); (· rfl))); first | refine lc hM ?_ | refine ll hM ?_ | refine lp hM ?_) | ((with_reducible refine at_store ?_); first | (refine ls hM ?_; clear hM; intro wx hM) | (refine lw hM ?_; clear hM; intro wx hM) | (refine lt hM ?_; clear hM; intro wx hM)) | ((with_reducible refine at_alloc ?_); refine lz hM ?_; clear hM; intro gx wx hM) | ((with_reducible refine at_box ?_); refine lb hM ?_; clear hM; intro gx wx hM))
    obtain ⟨g0, rfl⟩ := hM.name1
    have M0 := Lib.hid hM
    clear hM HV HK
    go_loopw [6, 5, 7] (fun i b u wr => ∃ (k : Nat) (x : Int), k ≤ n ∧ i = .int .i64 (k : Nat) ∧ b = .int .i64 x ∧ Hid (bestR p T x (ws.drop k) = Z) ∧ Mem [] w [⟨g0, 42, 4, cfgCs r d p A n c⟩] [] wr) (fun i _ _ _ => n - (intOf i).toNat)
    case atStart => exact ⟨0, -1, by omega, rfl, rfl, Lib.hid HZ.out, M0.out⟩
    case round =>
      obtain ⟨k, x, hk, rfl, rfl, HC, hM⟩ := hrel
      by_cases hlt : k < n
      · have hkl : k < ws.length := by have := HL.out; omega
        have hst := bestR_step (p := p) (T := T) (x := x) hkl
        obtain ⟨f0, f1, f2⟩ := HE.out _ (List.getElem_mem hkl)
        obtain ⟨g, off, rfl, hgl, _⟩ := HW.out.2 (by omega)
        have hcell := fun w' (hb : Below w.heap.size w w') => (HW.out.keep hb).c0 k hkl
        obtain ⟨f, hf⟩ : ∃ f, f = ws[k].1 := ⟨_, rfl⟩
        have hat : atR p T ws[k] = (if p = 0 then f else if T / p * p + f < T then T / p * p + f + p else T / p * p + f) := by unfold atR; rw [hf]
        have f3 : f ≤ 10000000 := by omega
        rw [← hf] at hcell f0 f1
        rw [hat, HC.out] at hst
        have HX := Lib.hid hcell
        have hk0 : (0 : Int) ≤ (k : Int) := Int.natCast_nonneg _
        have hk1 : (k : Int) < (n : Int) := by omega
        clear hcell hat HC f1 f2 hgl
        by_cases hp0 : p = 0
        · subst hp0
          rw [if_pos rfl] at hst
          have HS := Lib.hid hst
          clear hst hf
          have t1 : decide ((0 : Int) < 0) = false := rfl
          by_cases a1 : T ≤ f
          · have d1 : decide (T ≤ f) = true := decide_eq_true a1
            by_cases a2 : x < 0
            · have d2 : decide (x < 0) = true := decide_eq_true a2
              have HS2 := Lib.hid (show bestR 0 T f (ws.drop (k + 1)) = Z by rw [HS.out, if_pos ⟨a1, .inl a2⟩])
              go_wp2_with (first | ((with_reducible refine at_load ?_); refine lo (HX.out _ hM.below) ?_) | ((first | with_reducible refine at_load ?_ | ((with_reducible refine at_load_g ?_ ?_); (· rfl))); first | refine lc hM ?_ | refine ll hM ?_ | refine lp hM ?_) | ((with_reducible refine at_store ?_); first | (refine ls hM ?_; clear hM; intro wx hM) | (refine lw hM ?_; clear hM; intro wx hM) | (refine lt hM ?_; clear hM; intro wx hM)) | ((with_reducible refine at_alloc ?_); refine lz hM ?_; clear hM; intro gx wx hM) | ((with_reducible refine at_box ?_); refine lb hM ?_; clear hM; intro gx wx hM))
              exact ⟨⟨k + 1, _, by omega, by go_num, rfl, HS2, ((hM.subL (by repeat (first | exact List.Sublist.refl _ | exact List.nil_sublist _ | apply List.Sublist.cons_cons | apply List.Sublist.cons))).subR (by repeat (first | exact List.Sublist.refl _ | exact List.nil_sublist _ | apply List.Sublist.cons_cons | apply List.Sublist.cons)))⟩, by simp [intOf]; omega⟩
            · have d2 : decide (x < 0) = false := decide_eq_false a2
              by_cases a3 : f < x
              · have d3 : decide (f < x) = true := decide_eq_true a3
                have HS2 := Lib.hid (show bestR 0 T f (ws.drop (k + 1)) = Z by rw [HS.out, if_pos ⟨a1, .inr a3⟩])
                go_wp2_with (first | ((with_reducible refine at_load ?_); refine lo (HX.out _ hM.below) ?_) | ((first | with_reducible refine at_load ?_ | ((with_reducible refine at_load_g ?_ ?_); (· rfl))); first | refine lc hM ?_ | refine ll hM ?_ | refine lp hM ?_) | ((with_reducible refine at_store ?_); first | (refine ls hM ?_; clear hM; intro wx hM) | (refine lw hM ?_; clear hM; intro wx hM) | (refine lt hM ?_; clear hM; intro wx hM)) | ((with_reducible refine at_alloc ?_); refine lz hM ?_; clear hM; intro gx wx hM) | ((with_reducible refine at_box ?_); refine lb hM ?_; clear hM; intro gx wx hM))
                exact ⟨⟨k + 1, _, by omega, by go_num, rfl, HS2, ((hM.subL (by repeat (first | exact List.Sublist.refl _ | exact List.nil_sublist _ | apply List.Sublist.cons_cons | apply List.Sublist.cons))).subR (by repeat (first | exact List.Sublist.refl _ | exact List.nil_sublist _ | apply List.Sublist.cons_cons | apply List.Sublist.cons)))⟩, by simp [intOf]; omega⟩
              · have d3 : decide (f < x) = false := decide_eq_false a3
                have HS2 := Lib.hid (show bestR 0 T x (ws.drop (k + 1)) = Z by rw [HS.out, if_neg (by omega)])
                go_wp2_with (first | ((with_reducible refine at_load ?_); refine lo (HX.out _ hM.below) ?_) | ((first | with_reducible refine at_load ?_ | ((with_reducible refine at_load_g ?_ ?_); (· rfl))); first | refine lc hM ?_ | refine ll hM ?_ | refine lp hM ?_) | ((with_reducible refine at_store ?_); first | (refine ls hM ?_; clear hM; intro wx hM) | (refine lw hM ?_; clear hM; intro wx hM) | (refine lt hM ?_; clear hM; intro wx hM)) | ((with_reducible refine at_alloc ?_); refine lz hM ?_; clear hM; intro gx wx hM) | ((with_reducible refine at_box ?_); refine lb hM ?_; clear hM; intro gx wx hM))
                exact ⟨⟨k + 1, _, by omega, by go_num, rfl, HS2, ((hM.subL (by repeat (first | exact List.Sublist.refl _ | exact List.nil_sublist _ | apply List.Sublist.cons_cons | apply List.Sublist.cons))).subR (by repeat (first | exact List.Sublist.refl _ | exact List.nil_sublist _ | apply List.Sublist.cons_cons | apply List.Sublist.cons)))⟩, by simp [intOf]; omega⟩
          · have d1 : decide (T ≤ f) = false := decide_eq_false a1
            have HS2 := Lib.hid (show bestR 0 T x (ws.drop (k + 1)) = Z by rw [HS.out, if_neg (by omega)])
            go_wp2_with (first | ((with_reducible refine at_load ?_); refine lo (HX.out _ hM.below) ?_) | ((first | with_reducible refine at_load ?_ | ((with_reducible refine at_load_g ?_ ?_); (· rfl))); first | refine lc hM ?_ | refine ll hM ?_ | refine lp hM ?_) | ((with_reducible refine at_store ?_); first | (refine ls hM ?_; clear hM; intro wx hM) | (refine lw hM ?_; clear hM; intro wx hM) | (refine lt hM ?_; clear hM; intro wx hM)) | ((with_reducible refine at_alloc ?_); refine lz hM ?_; clear hM; intro gx wx hM) | ((with_reducible refine at_box ?_); refine lb hM ?_; clear hM; intro gx wx hM))
            exact ⟨⟨k + 1, _, by omega, by go_num, rfl, HS2, ((hM.subL (by repeat (first | exact List.Sublist.refl _ | exact List.nil_sublist _ | apply List.Sublist.cons_cons | apply List.Sublist.cons))).subR (by repeat (first | exact List.Sublist.refl _ | exact List.nil_sublist _ | apply List.Sublist.cons_cons | apply List.Sublist.cons)))⟩, by simp [intOf]; omega⟩
        · have t1 : decide (0 < p) = true := decide_eq_true (by omega)
          have t2 : (p == 0) = false := by simp [hp0]
          rw [if_neg hp0] at hst
          have hpos : 0 < p := by omega
          have e1 := Int.mul_ediv_add_emod T p
          have e2 := Int.emod_nonneg T hp0
          have e3 := Int.emod_lt_of_pos T hpos
          have e4 := Int.ediv_nonneg h0T hp
          have e5 : T / p ≤ T := Int.ediv_le_self _ h0T
          have e6 : T / p * p ≤ T := by have := Int.mul_comm (T / p) p; omega
          have e7 : 0 ≤ T / p * p := Int.mul_nonneg e4 hp
          have e8 : T.tdiv p = T / p := Int.tdiv_eq_ediv_of_nonneg h0T
          clear e1 e2 e3 hf
          obtain ⟨D, hD⟩ : ∃ D, T / p = D := ⟨_, rfl⟩
          rw [hD] at hst e4 e5 e6 e7 e8
          obtain ⟨M, hMM⟩ : ∃ M, D * p = M := ⟨_, rfl⟩
          rw [hMM] at hst e6 e7
          have w1 : IntKind.i64.wrap (T.tdiv p) = D := by rw [e8]; exact IntWalk.i64_in _ ⟨by omega, by omega⟩
          clear e8
          have w2 : IntKind.i64.wrap (D * p) = M := by rw [hMM]; exact IntWalk.i64_in _ ⟨by omega, by omega⟩
          have w2' : IntKind.i64.wrap M = M := IntWalk.i64_in _ ⟨by omega, by omega⟩
          obtain ⟨V, hV⟩ : ∃ V, M + f = V := ⟨_, rfl⟩
          rw [hV] at hst
          have w3 : IntKind.i64.wrap (M + f) = V := by rw [hV]; exact IntWalk.i64_in _ ⟨by omega, by omega⟩
          by_cases a0 : V < T
          · rw [if_pos a0] at hst
            have t3 : decide (V < T) = true := decide_eq_true a0
            obtain ⟨a, ha⟩ : ∃ a, V + p = a := ⟨_, rfl⟩
            rw [ha] at hst
            have HS := Lib.hid hst
            have w4 : IntKind.i64.wrap (V + p) = a := by rw [← ha]; exact IntWalk.i64_in _ ⟨by omega, by omega⟩
            clear hst ha hV a0
            by_cases a1 : T ≤ a
            · have d1 : decide (T ≤ a) = true := decide_eq_true a1
              by_cases a2 : x < 0
              · have d2 : decide (x < 0) = true := decide_eq_true a2
                have HS2 := Lib.hid (show bestR p T a (ws.drop (k + 1)) = Z by rw [HS.out, if_pos ⟨a1, .inl a2⟩])
                go_wp2_with (first | ((with_reducible refine at_load ?_); refine lo (HX.out _ hM.below) ?_) | ((first | with_reducible refine at_load ?_ | ((with_reducible refine at_load_g ?_ ?_); (· rfl))); first | refine lc hM ?_ | refine ll hM ?_ | refine lp hM ?_) | ((with_reducible refine at_store ?_); first | (refine ls hM ?_; clear hM; intro wx hM) | (refine lw hM ?_; clear hM; intro wx hM) | (refine lt hM ?_; clear hM; intro wx hM)) | ((with_reducible refine at_alloc ?_); refine lz hM ?_; clear hM; intro gx wx hM) | ((with_reducible refine at_box ?_); refine lb hM ?_; clear hM; intro gx wx hM))
                refine Go.Bul.wp_region_class (Mem _ w _ _) (by kernel_rfl) (by kernel_rfl) hM.drew ?_
                repeat ((with_reducible refine wpQuiet_step (fun K hK => ?_)); (first | ((first | ((with_reducible refine quiet_some ?_ ?_); (· rfl)) | ((with_reducible refine quiet_wanted ?_ ?_); (· rfl))); apply Exists.intro; refine ⟨fun w' hM' => ?_, ?_⟩; (· first | (go_simp; rfl) | exact qc hM' | exact qo (HX.out _ hM'.below) | exact ql hM' | exact qp hM')) | ((with_reducible refine quiet_unwanted ?_ ?_); (· rfl))); go_simp; (with_reducible refine hK _ ?_); clear hK K)
                refine wpQuiet_nil ?_
                intro wx hM
                go_wp2_with (first | ((first | with_reducible refine at_load ?_ | ((with_reducible refine at_load_g ?_ ?_); (· rfl))); first | refine lc hM ?_ | refine ll hM ?_ | refine lp hM ?_) | ((with_reducible refine at_store ?_); first | (refine ls hM ?_; clear hM; intro wx hM) | (refine lw hM ?_; clear hM; intro wx hM) | (refine lt hM ?_; clear hM; intro wx hM)) | ((with_reducible refine at_alloc ?_); refine lz hM ?_; clear hM; intro gx wx hM) | ((with_reducible refine at_box ?_); refine lb hM ?_; clear hM; intro gx wx hM))
                exact ⟨⟨k + 1, _, by omega, by go_num, rfl, HS2, ((hM.subL (by repeat (first | exact List.Sublist.refl _ | exact List.nil_sublist _ | apply List.Sublist.cons_cons | apply List.Sublist.cons))).subR (by repeat (first | exact List.Sublist.refl _ | exact List.nil_sublist _ | apply List.Sublist.cons_cons | apply List.Sublist.cons)))⟩, by simp [intOf]; omega⟩
              · have d2 : decide (x < 0) = false := decide_eq_false a2
                by_cases a3 : a < x
                · have d3 : decide (a < x) = true := decide_eq_true a3
                  have HS2 := Lib.hid (show bestR p T a (ws.drop (k + 1)) = Z by rw [HS.out, if_pos ⟨a1, .inr a3⟩])
                  go_wp2_with (first | ((with_reducible refine at_load ?_); refine lo (HX.out _ hM.below) ?_) | ((first | with_reducible refine at_load ?_ | ((with_reducible refine at_load_g ?_ ?_); (· rfl))); first | refine lc hM ?_ | refine ll hM ?_ | refine lp hM ?_) | ((with_reducible refine at_store ?_); first | (refine ls hM ?_; clear hM; intro wx hM) | (refine lw hM ?_; clear hM; intro wx hM) | (refine lt hM ?_; clear hM; intro wx hM)) | ((with_reducible refine at_alloc ?_); refine lz hM ?_; clear hM; intro gx wx hM) | ((with_reducible refine at_box ?_); refine lb hM ?_; clear hM; intro gx wx hM))
                  refine Go.Bul.wp_region_class (Mem _ w _ _) (by kernel_rfl) (by kernel_rfl) hM.drew ?_
                  repeat ((with_reducible refine wpQuiet_step (fun K hK => ?_)); (first | ((first | ((with_reducible refine quiet_some ?_ ?_); (· rfl)) | ((with_reducible refine quiet_wanted ?_ ?_); (· rfl))); apply Exists.intro; refine ⟨fun w' hM' => ?_, ?_⟩; (· first | (go_simp; rfl) | exact qc hM' | exact qo (HX.out _ hM'.below) | exact ql hM' | exact qp hM')) | ((with_reducible refine quiet_unwanted ?_ ?_); (· rfl))); go_simp; (with_reducible refine hK _ ?_); clear hK K)
                  refine wpQuiet_nil ?_
                  intro wx hM
                  go_wp2_with (first | ((first | with_reducible refine at_load ?_ | ((with_reducible refine at_load_g ?_ ?_); (· rfl))); first | refine lc hM ?_ | refine ll hM ?_ | refine lp hM ?_) | ((with_reducible refine at_store ?_); first | (refine ls hM ?_; clear hM; intro wx hM) | (refine lw hM ?_; clear hM; intro wx hM) | (refine lt hM ?_; clear hM; intro wx hM)) | ((with_reducible refine at_alloc ?_); refine lz hM ?_; clear hM; intro gx wx hM) | ((with_reducible refine at_box ?_); refine lb hM ?_; clear hM; intro gx wx hM))
                  exact ⟨⟨k + 1, _, by omega, by go_num, rfl, HS2, ((hM.subL (by repeat (first | exact List.Sublist.refl _ | exact List.nil_sublist _ | apply List.Sublist.cons_cons | apply List.Sublist.cons))).subR (by repeat (first | exact List.Sublist.refl _ | exact List.nil_sublist _ | apply List.Sublist.cons_cons | apply List.Sublist.cons)))⟩, by simp [intOf]; omega⟩
                · have d3 : decide (a < x) = false := decide_eq_false a3
                  have HS2 := Lib.hid (show bestR p T x (ws.drop (k + 1)) = Z by rw [HS.out, if_neg (by omega)])
                  go_wp2_with (first | ((with_reducible refine at_load ?_); refine lo (HX.out _ hM.below) ?_) | ((first | with_reducible refine at_load ?_ | ((with_reducible refine at_load_g ?_ ?_); (· rfl))); first | refine lc hM ?_ | refine ll hM ?_ | refine lp hM ?_) | ((with_reducible refine at_store ?_); first | (refine ls hM ?_; clear hM; intro wx hM) | (refine lw hM ?_; clear hM; intro wx hM) | (refine lt hM ?_; clear hM; intro wx hM)) | ((with_reducible refine at_alloc ?_); refine lz hM ?_; clear hM; intro gx wx hM) | ((with_reducible refine at_box ?_); refine lb hM ?_; clear hM; intro gx wx hM))
                  refine Go.Bul.wp_region_class (Mem _ w _ _) (by kernel_rfl) (by kernel_rfl) hM.drew ?_
                  repeat ((with_reducible refine wpQuiet_step (fun K hK => ?_)); (first | ((first | ((with_reducible refine quiet_some ?_ ?_); (· rfl)) | ((with_reducible refine quiet_wanted ?_ ?_); (· rfl))); apply Exists.intro; refine ⟨fun w' hM' => ?_, ?_⟩; (· first | (go_simp; rfl) | exact qc hM' | exact qo (HX.out _ hM'.below) | exact ql hM' | exact qp hM')) | ((with_reducible refine quiet_unwanted ?_ ?_); (· rfl))); go_simp; (with_reducible refine hK _ ?_); clear hK K)
                  refine wpQuiet_nil ?_
                  intro wx hM
                  go_wp2_with (first | ((first | with_reducible refine at_load ?_ | ((with_reducible refine at_load_g ?_ ?_); (· rfl))); first | refine lc hM ?_ | refine ll hM ?_ | refine lp hM ?_) | ((with_reducible refine at_store ?_); first | (refine ls hM ?_; clear hM; intro wx hM) | (refine lw hM ?_; clear hM; intro wx hM) | (refine lt hM ?_; clear hM; intro wx hM)) | ((with_reducible refine at_alloc ?_); refine lz hM ?_; clear hM; intro gx wx hM) | ((with_reducible refine at_box ?_); refine lb hM ?_; clear hM; intro gx wx hM))
                  exact ⟨⟨k + 1, _, by omega, by go_num, rfl, HS2, ((hM.subL (by repeat (first | exact List.Sublist.refl _ | exact List.nil_sublist _ | apply List.Sublist.cons_cons | apply List.Sublist.cons))).subR (by repeat (first | exact List.Sublist.refl _ | exact List.nil_sublist _ | apply List.Sublist.cons_cons | apply List.Sublist.cons)))⟩, by simp [intOf]; omega⟩
            · have d1 : decide (T ≤ a) = false := decide_eq_false a1
              have HS2 := Lib.hid (show bestR p T x (ws.drop (k + 1)) = Z by rw [HS.out, if_neg (by omega)])
              clear a1
              go_wp2_with (first | ((with_reducible refine at_load ?_); refine lo (HX.out _ hM.below) ?_) | ((first | with_reducible refine at_load ?_ | ((with_reducible refine at_load_g ?_ ?_); (· rfl))); first | refine lc hM ?_ | refine ll hM ?_ | refine lp hM ?_) | ((with_reducible refine at_store ?_); first | (refine ls hM ?_; clear hM; intro wx hM) | (refine lw hM ?_; clear hM; intro wx hM) | (refine lt hM ?_; clear hM; intro wx hM)) | ((with_reducible refine at_alloc ?_); refine lz hM ?_; clear hM; intro gx wx hM) | ((with_reducible refine at_box ?_); refine lb hM ?_; clear hM; intro gx wx hM))
              refine Go.Bul.wp_region_class (Mem _ w _ _) (by kernel_rfl) (by kernel_rfl) hM.drew ?_
              repeat ((with_reducible refine wpQuiet_step (fun K hK => ?_)); (first | ((first | ((with_reducible refine quiet_some ?_ ?_); (· rfl)) | ((with_reducible refine quiet_wanted ?_ ?_); (· rfl))); apply Exists.intro; refine ⟨fun w' hM' => ?_, ?_⟩; (· first | (go_simp; rfl) | exact qc hM' | exact qo (HX.out _ hM'.below) | exact ql hM' | exact qp hM')) | ((with_reducible refine quiet_unwanted ?_ ?_); (· rfl))); go_simp; (with_reducible refine hK _ ?_); clear hK K)
              refine wpQuiet_nil ?_
              intro wx hM
              go_wp2_with (first | ((first | with_reducible refine at_load ?_ | ((with_reducible refine at_load_g ?_ ?_); (· rfl))); first | refine lc hM ?_ | refine ll hM ?_ | refine lp hM ?_) | ((with_reducible refine at_store ?_); first | (refine ls hM ?_; clear hM; intro wx hM) | (refine lw hM ?_; clear hM; intro wx hM) | (refine lt hM ?_; clear hM; intro wx hM)) | ((with_reducible refine at_alloc ?_); refine lz hM ?_; clear hM; intro gx wx hM) | ((with_reducible refine at_box ?_); refine lb hM ?_; clear hM; intro gx wx hM))
              exact ⟨⟨k + 1, _, by omega, by go_num, rfl, HS2, ((hM.subL (by repeat (first | exact List.Sublist.refl _ | exact List.nil_sublist _ | apply List.Sublist.cons_cons | apply List.Sublist.cons))).subR (by repeat (first | exact List.Sublist.refl _ | exact List.nil_sublist _ | apply List.Sublist.cons_cons | apply List.Sublist.cons)))⟩, by simp [intOf]; omega⟩
          · rw [if_neg a0] at hst
            have t3 : decide (V < T) = false := decide_eq_false a0
            obtain ⟨a, ha⟩ : ∃ a, a = V := ⟨_, rfl⟩
            clear hV a0
            subst ha
            have HS := Lib.hid hst
            clear hst
            by_cases a1 : T ≤ a
            · have d1 : decide (T ≤ a) = true := decide_eq_true a1
              by_cases a2 : x < 0
              · have d2 : decide (x < 0) = true := decide_eq_true a2
                have HS2 := Lib.hid (show bestR p T a (ws.drop (k + 1)) = Z by rw [HS.out, if_pos ⟨a1, .inl a2⟩])
                go_wp2_with (first | ((with_reducible refine at_load ?_); refine lo (HX.out _ hM.below) ?_) | ((first | with_reducible refine at_load ?_ | ((with_reducible refine at_load_g ?_ ?_); (· rfl))); first | refine lc hM ?_ | refine ll hM ?_ | refine lp hM ?_) | ((with_reducible refine at_store ?_); first | (refine ls hM ?_; clear hM; intro wx hM) | (refine lw hM ?_; clear hM; intro wx hM) | (refine lt hM ?_; clear hM; intro wx hM)) | ((with_reducible refine at_alloc ?_); refine lz hM ?_; clear hM; intro gx wx hM) | ((with_reducible refine at_box ?_); refine lb hM ?_; clear hM; intro gx wx hM))
                refine Go.Bul.wp_region_class (Mem _ w _ _) (by kernel_rfl) (by kernel_rfl) hM.drew ?_
                repeat ((with_reducible refine wpQuiet_step (fun K hK => ?_)); (first | ((first | ((with_reducible refine quiet_some ?_ ?_); (· rfl)) | ((with_reducible refine quiet_wanted ?_ ?_); (· rfl))); apply Exists.intro; refine ⟨fun w' hM' => ?_, ?_⟩; (· first | (go_simp; rfl) | exact qc hM' | exact qo (HX.out _ hM'.below) | exact ql hM' | exact qp hM')) | ((with_reducible refine quiet_unwanted ?_ ?_); (· rfl))); go_simp; (with_reducible refine hK _ ?_); clear hK K)
                refine wpQuiet_nil ?_
                intro wx hM
                go_wp2_with (first | ((first | with_reducible refine at_load ?_ | ((with_reducible refine at_load_g ?_ ?_); (· rfl))); first | refine lc hM ?_ | refine ll hM ?_ | refine lp hM ?_) | ((with_reducible refine at_store ?_); first | (refine ls hM ?_; clear hM; intro wx hM) | (refine lw hM ?_; clear hM; intro wx hM) | (refine lt hM ?_; clear hM; intro wx hM)) | ((with_reducible refine at_alloc ?_); refine lz hM ?_; clear hM; intro gx wx hM) | ((with_reducible refine at_box ?_); refine lb hM ?_; clear hM; intro gx wx hM))
                exact ⟨⟨k + 1, _, by omega, by go_num, rfl, HS2, ((hM.subL (by repeat (first | exact List.Sublist.refl _ | exact List.nil_sublist _ | apply List.Sublist.cons_cons | apply List.Sublist.cons))).subR (by repeat (first | exact List.Sublist.refl _ | exact List.nil_sublist _ | apply List.Sublist.cons_cons | apply List.Sublist.cons)))⟩, by simp [intOf]; omega⟩
              · have d2 : decide (x < 0) = false := decide_eq_false a2
                by_cases a3 : a < x
                · have d3 : decide (a < x) = true := decide_eq_true a3
                  have HS2 := Lib.hid (show bestR p T a (ws.drop (k + 1)) = Z by rw [HS.out, if_pos ⟨a1, .inr a3⟩])
                  go_wp2_with (first | ((with_reducible refine at_load ?_); refine lo (HX.out _ hM.below) ?_) | ((first | with_reducible refine at_load ?_ | ((with_reducible refine at_load_g ?_ ?_); (· rfl))); first | refine lc hM ?_ | refine ll hM ?_ | refine lp hM ?_) | ((with_reducible refine at_store ?_); first | (refine ls hM ?_; clear hM; intro wx hM) | (refine lw hM ?_; clear hM; intro wx hM) | (refine lt hM ?_; clear hM; intro wx hM)) | ((with_reducible refine at_alloc ?_); refine lz hM ?_; clear hM; intro gx wx hM) | ((with_reducible refine at_box ?_); refine lb hM ?_; clear hM; intro gx wx hM))
                  refine Go.Bul.wp_region_class (Mem _ w _ _) (by kernel_rfl) (by kernel_rfl) hM.drew ?_
                  repeat ((with_reducible refine wpQuiet_step (fun K hK => ?_)); (first | ((first | ((with_reducible refine quiet_some ?_ ?_); (· rfl)) | ((with_reducible refine quiet_wanted ?_ ?_); (· rfl))); apply Exists.intro; refine ⟨fun w' hM' => ?_, ?_⟩; (· first | (go_simp; rfl) | exact qc hM' | exact qo (HX.out _ hM'.below) | exact ql hM' | exact qp hM')) | ((with_reducible refine quiet_unwanted ?_ ?_); (· rfl))); go_simp; (with_reducible refine hK _ ?_); clear hK K)
                  refine wpQuiet_nil ?_
                  intro wx hM
                  go_wp2_with (first | ((first | with_reducible refine at_load ?_ | ((with_reducible refine at_load_g ?_ ?_); (· rfl))); first | refine lc hM ?_ | refine ll hM ?_ | refine lp hM ?_) | ((with_reducible refine at_store ?_); first | (refine ls hM ?_; clear hM; intro wx hM) | (refine lw hM ?_; clear hM; intro wx hM) | (refine lt hM ?_; clear hM; intro wx hM)) | ((with_reducible refine at_alloc ?_); refine lz hM ?_; clear hM; intro gx wx hM) | ((with_reducible refine at_box ?_); refine lb hM ?_; clear hM; intro gx wx hM))
                  exact ⟨⟨k + 1, _, by omega, by go_num, rfl, HS2, ((hM.subL (by repeat (first | exact List.Sublist.refl _ | exact List.nil_sublist _ | apply List.Sublist.cons_cons | apply List.Sublist.cons))).subR (by repeat (first | exact List.Sublist.refl _ | exact List.nil_sublist _ | apply List.Sublist.cons_cons | apply List.Sublist.cons)))⟩, by simp [intOf]; omega⟩
                · have d3 : decide (a < x) = false := decide_eq_false a3
                  have HS2 := Lib.hid (show bestR p T x (ws.drop (k + 1)) = Z by rw [HS.out, if_neg (by omega)])
                  go_wp2_with (first | ((with_reducible refine at_load ?_); refine lo (HX.out _ hM.below) ?_) | ((first | with_reducible refine at_load ?_ | ((with_reducible refine at_load_g ?_ ?_); (· rfl))); first | refine lc hM ?_ | refine ll hM ?_ | refine lp hM ?_) | ((with_reducible refine at_store ?_); first | (refine ls hM ?_; clear hM; intro wx hM) | (refine lw hM ?_; clear hM; intro wx hM) | (refine lt hM ?_; clear hM; intro wx hM)) | ((with_reducible refine at_alloc ?_); refine lz hM ?_; clear hM; intro gx wx hM) | ((with_reducible refine at_box ?_); refine lb hM ?_; clear hM; intro gx wx hM))
                  refine Go.Bul.wp_region_class (Mem _ w _ _) (by kernel_rfl) (by kernel_rfl) hM.drew ?_
                  repeat ((with_reducible refine wpQuiet_step (fun K hK => ?_)); (first | ((first | ((with_reducible refine quiet_some ?_ ?_); (· rfl)) | ((with_reducible refine quiet_wanted ?_ ?_); (· rfl))); apply Exists.intro; refine ⟨fun w' hM' => ?_, ?_⟩; (· first | (go_simp; rfl) | exact qc hM' | exact qo (HX.out _ hM'.below) | exact ql hM' | exact qp hM')) | ((with_reducible refine quiet_unwanted ?_ ?_); (· rfl))); go_simp; (with_reducible refine hK _ ?_); clear hK K)
                  refine wpQuiet_nil ?_
                  intro wx hM
                  go_wp2_with (first | ((first | with_reducible refine at_load ?_ | ((with_reducible refine at_load_g ?_ ?_); (· rfl))); first | refine lc hM ?_ | refine ll hM ?_ | refine lp hM ?_) | ((with_reducible refine at_store ?_); first | (refine ls hM ?_; clear hM; intro wx hM) | (refine lw hM ?_; clear hM; intro wx hM) | (refine lt hM ?_; clear hM; intro wx hM)) | ((with_reducible refine at_alloc ?_); refine lz hM ?_; clear hM; intro gx wx hM) | ((with_reducible refine at_box ?_); refine lb hM ?_; clear hM; intro gx wx hM))
                  exact ⟨⟨k + 1, _, by omega, by go_num, rfl, HS2, ((hM.subL (by repeat (first | exact List.Sublist.refl _ | exact List.nil_sublist _ | apply List.Sublist.cons_cons | apply List.Sublist.cons))).subR (by repeat (first | exact List.Sublist.refl _ | exact List.nil_sublist _ | apply List.Sublist.cons_cons | apply List.Sublist.cons)))⟩, by simp [intOf]; omega⟩
            · have d1 : decide (T ≤ a) = false := decide_eq_false a1
              have HS2 := Lib.hid (show bestR p T x (ws.drop (k + 1)) = Z by rw [HS.out, if_neg (by omega)])
              clear a1
              go_wp2_with (first | ((with_reducible refine at_load ?_); refine lo (HX.out _ hM.below) ?_) | ((first | with_reducible refine at_load ?_ | ((with_reducible refine at_load_g ?_ ?_); (· rfl))); first | refine lc hM ?_ | refine ll hM ?_ | refine lp hM ?_) | ((with_reducible refine at_store ?_); first | (refine ls hM ?_; clear hM; intro wx hM) | (refine lw hM ?_; clear hM; intro wx hM) | (refine lt hM ?_; clear hM; intro wx hM)) | ((with_reducible refine at_alloc ?_); refine lz hM ?_; clear hM; intro gx wx hM) | ((with_reducible refine at_box ?_); refine lb hM ?_; clear hM; intro gx wx hM))
              refine Go.Bul.wp_region_class (Mem _ w _ _) (by kernel_rfl) (by kernel_rfl) hM.drew ?_
              repeat ((with_reducible refine wpQuiet_step (fun K hK => ?_)); (first | ((first | ((with_reducible refine quiet_some ?_ ?_); (· rfl)) | ((with_reducible refine quiet_wanted ?_ ?_); (· rfl))); apply Exists.intro; refine ⟨fun w' hM' => ?_, ?_⟩; (· first | (go_simp; rfl) | exact qc hM' | exact qo (HX.out _ hM'.below) | exact ql hM' | exact qp hM')) | ((with_reducible refine quiet_unwanted ?_ ?_); (· rfl))); go_simp; (with_reducible refine hK _ ?_); clear hK K)
              refine wpQuiet_nil ?_
              intro wx hM
              go_wp2_with (first | ((first | with_reducible refine at_load ?_ | ((with_reducible refine at_load_g ?_ ?_); (· rfl))); first | refine lc hM ?_ | refine ll hM ?_ | refine lp hM ?_) | ((with_reducible refine at_store ?_); first | (refine ls hM ?_; clear hM; intro wx hM) | (refine lw hM ?_; clear hM; intro wx hM) | (refine lt hM ?_; clear hM; intro wx hM)) | ((with_reducible refine at_alloc ?_); refine lz hM ?_; clear hM; intro gx wx hM) | ((with_reducible refine at_box ?_); refine lb hM ?_; clear hM; intro gx wx hM))
              exact ⟨⟨k + 1, _, by omega, by go_num, rfl, HS2, ((hM.subL (by repeat (first | exact List.Sublist.refl _ | exact List.nil_sublist _ | apply List.Sublist.cons_cons | apply List.Sublist.cons))).subR (by repeat (first | exact List.Sublist.refl _ | exact List.nil_sublist _ | apply List.Sublist.cons_cons | apply List.Sublist.cons)))⟩, by simp [intOf]; omega⟩
      · obtain rfl : k = n := by omega
        have hr : x = Z := by rw [← HC.out, List.drop_of_length_le (by have := HL.out; omega)]; rfl
        clear HC
        subst hr
        go_wp2_with (first | ((first | with_reducible refine at_load ?_ | ((with_reducible refine at_load_g ?_ ?_); (· rfl))); first | refine lc hM ?_ | refine ll hM ?_ | refine lp hM ?_) | ((with_reducible refine at_store ?_); first | (refine ls hM ?_; clear hM; intro wx hM) | (refine lw hM ?_; clear hM; intro wx hM) | (refine lt hM ?_; clear hM; intro wx hM)) | ((with_reducible refine at_alloc ?_); refine lz hM ?_; clear hM; intro gx wx hM) | ((with_reducible refine at_box ?_); refine lb hM ?_; clear hM; intro gx wx hM))
        go_ret
        exact ⟨rfl, hM.below⟩
set_option maxRecDepth 20000 in
set_option maxHeartbeats 4000000 in
theorem rnext_no (r d p m : Int) (A : Option Addr) (n c : Nat) (ws : List Win) (w : World) (hn : n ≤ 1000) (hW : Wins w A n ws) (h : 1099511627776 < m ∨ chk r d p ws ≠ 0) :
    Calls Try.prog 32 #[cfgV r d p A n c, .int .i64 m] w fun e w' => e = .returned (.int .i64 (-1)) ∧ Below w.heap.size w w' := by
  have hM := Mem.start [] w
  have HW := Lib.hid hW
  have HK := Lib.hid (fun w hW => rcheck_any r d p A n c ws w hn hW)
  obtain ⟨z, hz⟩ : ∃ z, chk r d p ws = z := ⟨_, rfl⟩
  rw [hz] at HK h
  by_cases h2 : z = 0
  · have c0 : decide ((1099511627776 : Int) < m) = true := decide_eq_true (by omega)
    subst h2
    clear hW hn h hz
    go_enter Try.func32, Try.ntmps32
    go_wp2_with (first | ((with_reducible refine (HK.out _ (HW.out.keep hM.below)).mono ?_); rintro e w1 ⟨rfl, hb1⟩; replace hM := hM.step hb1; clear hb1) | ((first | with_reducible refine at_load ?_ | ((with_reducible refine at_load_g ?_ ?_); (· rfl))); first | refine lc hM ?_ | refine ll hM ?_ | refine lp hM ?_) | ((with_reducible refine at_store ?_); first | (refine ls hM ?_; clear hM; intro wx hM) | (refine lw hM ?_; clear hM; intro wx hM) | (refine lt hM ?_; clear hM; intro wx hM)) | ((with_reducible refine at_alloc ?_); refine lz hM ?_; clear hM; intro gx wx hM) | ((with_reducible refine at_box ?_); refine lb hM ?_; clear hM; intro gx wx hM))
    go_ret
    exact ⟨rfl, hM.below⟩
  · have c1 : (z != 0) = true := by simpa using h2
    clear hW hn h h2 hz
    go_enter Try.func32, Try.ntmps32
    go_wp2_with (first | ((with_reducible refine (HK.out _ (HW.out.keep hM.below)).mono ?_); rintro e w1 ⟨rfl, hb1⟩; replace hM := hM.step hb1; clear hb1) | ((first | with_reducible refine at_load ?_ | ((with_reducible refine at_load_g ?_ ?_); (· rfl))); first | refine lc hM ?_ | refine ll hM ?_ | refine lp hM ?_) | ((with_reducible refine at_store ?_); first | (refine ls hM ?_; clear hM; intro wx hM) | (refine lw hM ?_; clear hM; intro wx hM) | (refine lt hM ?_; clear hM; intro wx hM)) | ((with_reducible refine at_alloc ?_); refine lz hM ?_; clear hM; intro gx wx hM) | ((with_reducible refine at_box ?_); refine lb hM ?_; clear hM; intro gx wx hM))
    go_ret
    exact ⟨rfl, hM.below⟩
/-- The reference's answer. -/
def zOf (o : Option Int) : Int := match o with | some x => x | none => -1
theorem nextR_eq {r d p : Int} {ws : List Win} (hc : chk r d p ws = 0) {m : Int} (hm : 0 ≤ m) : nextR p ws m = zOf (nextP p ws m) := (next_eq hc hm).trans (by cases nextP p ws m <;> rfl)
theorem rnext_any (r d p m : Int) (A : Option Addr) (n c : Nat) (ws : List Win) (w : World) (hn : n ≤ 1000) (hW : Wins w A n ws) :
    Calls Try.prog 32 #[cfgV r d p A n c, .int .i64 m] w fun e w' => e = .returned (.int .i64 (zOf (nextO r d p ws m))) ∧ Below w.heap.size w w' := by
  unfold nextO
  by_cases h : 1099511627776 < m ∨ chk r d p ws ≠ 0
  · rw [if_pos h]
    exact rnext_no r d p m A n c ws w hn hW h
  · rw [if_neg h, ← nextR_eq (r := r) (d := d) (by omega) (by omega)]
    exact rnext_yes r d p m A n c ws w (by omega) (by omega) hW
end Go.Proofs.Ytenflgbaibjeoaa
