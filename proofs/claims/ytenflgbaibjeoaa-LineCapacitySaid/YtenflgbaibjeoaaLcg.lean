/- Contracts of line.Config: before, Capacity. -/
import Derived.Test.YtenflgbaibjeoaaLcf
namespace Go.Lin
theorem allW_bd {most : Int} : ∀ {b : Int} {ws : List Win}, Valid most b ws → 0 ≤ b → b ≤ most → 0 ≤ allW ws ∧ allW ws + b ≤ most
  | _, [], _, _, _ => by simp [allW]; omega
  | b, (f, t) :: r, ⟨h0, h1, h2, h3, h4⟩, hb, hm => by
    have := allW_bd h4 (by omega) h3
    simp only [allW]
    omega
theorem partW_bd {most : Int} : ∀ {b : Int} {ws : List Win}, Valid most b ws → ∀ m, 0 ≤ partW m ws ∧ partW m ws ≤ allW ws
  | _, [], _, _ => by simp [allW, partW]
  | b, (f, t) :: r, ⟨h0, h1, h2, h3, h4⟩, m => by
    have := partW_bd h4 m
    simp only [allW, partW]
    omega
theorem valid_drop {most : Int} : ∀ {b : Int} {ws : List Win} (k : Nat), Valid most b ws → ∃ b', b ≤ b' ∧ Valid most b' (ws.drop k)
  | b, ws, 0, h => ⟨b, Int.le_refl _, h⟩
  | _, [], k + 1, h => ⟨_, Int.le_refl _, by simp [Valid]⟩
  | b, (f, t) :: r, k + 1, ⟨h0, h1, h2, h3, h4⟩ => by
    obtain ⟨b', hb, hv⟩ := valid_drop k h4
    exact ⟨b', by omega, hv⟩
theorem sums_step {m : Int} {ws : List Win} {k : Nat} (h : k < ws.length) : allW (ws.drop k) = (ws[k].2 - ws[k].1) + allW (ws.drop (k + 1)) ∧ partW m (ws.drop k) = max 0 (min m ws[k].2 - ws[k].1) + partW m (ws.drop (k + 1)) := by
  rw [List.drop_eq_getElem_cons h]
  exact ⟨rfl, rfl⟩
theorem valid_all {most : Int} {b : Int} {ws : List Win} (h : Valid most b ws) (k : Nat) (m : Int) : 0 ≤ allW (ws.drop k) ∧ 0 ≤ partW m (ws.drop k) := by
  obtain ⟨b', h1, h2⟩ := valid_drop k h
  refine ⟨?_, (partW_bd h2 m).1⟩
  have := partW_bd h2 m
  omega
end Go.Lin
namespace Go.Proofs.Ytenflgbaibjeoaa
open Go Go.RowKit Go.Bul Go.Thg Go.Lin
set_option maxRecDepth 20000 in
set_option maxHeartbeats 4000000 in
theorem before_any (r d p m : Int) (A : Option Addr) (n c : Nat) (ws : List Win) (w : World) (hc : chk r d p ws = 0) (hm : 0 ≤ m) (hm2 : m ≤ 10000000) (hW : Wins w A n ws) :
    Calls Try.prog 47 #[cfgV r d p A n c, .int .i64 m] w fun e w' => e = .returned (.int .i64 (before p ws m)) ∧ Below w.heap.size w w' := by
  have hM := Mem.start [] w
  obtain ⟨hb, hl32, hp, hv⟩ := chk_parts hc
  have hp2 : p ≤ 10000000 := by unfold badC at hb; omega
  have HW := Lib.hid hW
  have HL := Lib.hid hW.len
  have hn32 : n ≤ 32 := by have := HL.out; omega
  have hmost : mostOf p ≤ 10000000 := by unfold mostOf; split <;> omega
  have hmost0 : 0 ≤ mostOf p := by unfold mostOf; split <;> omega
  have hab := allW_bd hv (Int.le_refl _) hmost0
  have HP := Lib.hid (fun w => phase_any r d p m A n c w hp hm (by omega) (by omega))
  obtain ⟨q0, q1⟩ := phase_range hp hm
  have hst := fun (k : Nat) (hk : k < ws.length) => sums_step (m := phase p m) hk
  have hnn := fun (k : Nat) => valid_all hv k (phase p m)
  have hpb := partW_bd hv (phase p m)
  have hmem := valid_mem hv
  have hbe : before p ws m = partW (phase p m) ws + (if p = 0 then 0 else m / p * allW ws) := rfl
  rw [hbe]
  have hmul : p ≠ 0 → 0 ≤ m / p * allW ws ∧ m / p * allW ws ≤ 10000000 ∧ 0 ≤ m / p ∧ m / p ≤ 10000000 := fun h0 => by
    have hpos : 0 < p := by omega
    have e1 : mostOf p = p := by unfold mostOf; rw [if_neg h0]
    rw [e1] at hab
    have h1 := Int.ediv_nonneg hm hp
    have h2 := Int.mul_nonneg h1 hab.1
    have h3 : m / p * allW ws ≤ m / p * p := Int.mul_le_mul_of_nonneg_left (by omega) h1
    have h4 := Int.mul_ediv_add_emod m p
    have h5 := Int.emod_nonneg m h0
    rw [Int.mul_comm] at h4
    have h6 : m / p * 1 ≤ m / p * p := Int.mul_le_mul_of_nonneg_left (by omega) h1
    omega
  generalize phase p m = q at HP q0 q1 hst hnn hpb ⊢
  have HS := Lib.hid hst
  have HN := Lib.hid hnn
  have HM := Lib.hid hmem
  have HU := Lib.hid hmul
  obtain ⟨S, hS⟩ : ∃ S, S = allW ws := ⟨_, rfl⟩
  obtain ⟨T, hT⟩ : ∃ T, T = partW q ws := ⟨_, rfl⟩
  rw [← hS] at hab hpb HU ⊢
  rw [← hT] at hpb ⊢
  obtain ⟨V, hV⟩ : ∃ V, V = T + (if p = 0 then 0 else m / p * S) := ⟨_, rfl⟩
  rw [← hV]
  have HV := Lib.hid hV
  clear hV
  have HSE := Lib.hid hS
  have HTE := Lib.hid hT
  have hS1 : S ≤ 10000000 := by omega
  have hS0 : 0 ≤ S := by omega
  have hT1 : T ≤ 10000000 := by omega
  have hT0 : 0 ≤ T := by omega
  clear hW hc hb hv hst hnn hmem hmul hbe hS hT hab hpb hmost hmost0
  go_enter Try.func47, Try.ntmps47
  go_wp2_with (first | ((first | with_reducible refine at_load ?_ | ((with_reducible refine at_load_g ?_ ?_); (· rfl))); first | refine lc hM ?_ | refine ll hM ?_ | refine lp hM ?_) | ((with_reducible refine at_store ?_); first | (refine ls hM ?_; clear hM; intro wx hM) | (refine lw hM ?_; clear hM; intro wx hM) | (refine lt hM ?_; clear hM; intro wx hM)) | ((with_reducible refine at_alloc ?_); refine lz hM ?_; clear hM; intro gx wx hM) | ((with_reducible refine at_box ?_); refine lb hM ?_; clear hM; intro gx wx hM) | ((with_reducible refine (HP.out _).mono ?_); rintro e w1 ⟨rfl, hb1⟩; replace hM := hM.step hb1; clear hb1))
  obtain ⟨g0, rfl⟩ := hM.name1
  have M0 := Lib.hid hM
  clear hM HP
  go_loopw [16, 6, 7] (fun i u v wr => ∃ (k : Nat) (x y : Int), k ≤ n ∧ i = .int .i64 (k : Nat) ∧ u = .int .i64 x ∧ v = .int .i64 y ∧ Hid (x + partW q (ws.drop k) = T ∧ y + allW (ws.drop k) = S) ∧ 0 ≤ x ∧ 0 ≤ y ∧ Mem [] w [⟨g0, 27, 4, cfgCs r d p A n c⟩] [] wr) (fun i _ _ _ => n - (intOf i).toNat)
  case atStart => exact ⟨0, 0, 0, by omega, rfl, rfl, rfl, Lib.hid ⟨by rw [HTE.out]; simp, by rw [HSE.out]; simp⟩, by omega, by omega, M0.out⟩
  case round =>
    obtain ⟨k, x, y, hk, rfl, rfl, rfl, HC, hx0, hy0, hM⟩ := hrel
    by_cases hlt : k < n
    · have hkl : k < ws.length := by have := HL.out; omega
      obtain ⟨e1, e2⟩ := HS.out k hkl
      obtain ⟨c1, c2⟩ := HC.out
      obtain ⟨d1, d2⟩ := HN.out (k + 1)
      obtain ⟨f0, f1, f2⟩ := HM.out _ (List.getElem_mem hkl)
      obtain ⟨g, off, rfl, hgl, _⟩ := HW.out.2 (by omega)
      have hcell := (HW.out.keep hM.below).cell k hkl
      obtain ⟨f, hf⟩ : ∃ f, f = ws[k].1 := ⟨_, rfl⟩
      obtain ⟨t, ht⟩ : ∃ t, t = ws[k].2 := ⟨_, rfl⟩
      rw [← hf, ← ht] at hcell e1 e2 f1
      rw [← hf] at f0
      rw [← ht] at f2
      have HX := Lib.hid hcell
      have f3 : t ≤ 10000000 := by
        have : mostOf p ≤ 10000000 := by unfold mostOf; split <;> omega
        omega
      have y1 : y + (t - f) ≤ 10000000 := by omega
      have x1 : x + max 0 (min q t - f) ≤ 10000000 := by omega
      have HC2 : Hid (x + max 0 (min q t - f) + partW q (ws.drop (k + 1)) = T ∧ y + (t - f) + allW (ws.drop (k + 1)) = S) := Lib.hid ⟨by omega, by omega⟩
      clear hcell hf ht e1 e2 c1 c2 d1 d2 f2 HC
      have hk0 : (0 : Int) ≤ (k : Int) := Int.natCast_nonneg _
      have hk1 : (k : Int) < (n : Int) := by omega
      go_wp2_with (first | ((with_reducible refine at_load ?_); refine lr HX.out ?_) | ((first | with_reducible refine at_load ?_ | ((with_reducible refine at_load_g ?_ ?_); (· rfl))); first | refine lc hM ?_ | refine ll hM ?_ | refine lp hM ?_) | ((with_reducible refine at_store ?_); first | (refine ls hM ?_; clear hM; intro wx hM) | (refine lw hM ?_; clear hM; intro wx hM) | (refine lt hM ?_; clear hM; intro wx hM)) | ((with_reducible refine at_alloc ?_); refine lz hM ?_; clear hM; intro gx wx hM) | ((with_reducible refine at_box ?_); refine lb hM ?_; clear hM; intro gx wx hM))
      have e : (if f < if t < q then t else q then (if t < q then t else q) - f else 0) = max 0 (min q t - f) := by (repeat' split) <;> omega
      rw [e]
      obtain ⟨c1, c2⟩ := HC2.out
      exact ⟨⟨k + 1, _, _, by omega, by go_num, rfl, rfl, Lib.hid ⟨c1, c2⟩, by omega, by omega, ((hM.subL (by repeat (first | exact List.Sublist.refl _ | exact List.nil_sublist _ | apply List.Sublist.cons_cons | apply List.Sublist.cons))).subR (by repeat (first | exact List.Sublist.refl _ | exact List.nil_sublist _ | apply List.Sublist.cons_cons | apply List.Sublist.cons)))⟩, by simp [intOf]; omega⟩
    · obtain rfl : k = n := by omega
      obtain ⟨c1, c2⟩ := HC.out
      rw [List.drop_of_length_le (by have := HL.out; omega)] at c1 c2
      have hx : x = T := by simpa [partW] using c1
      have hy : y = S := by simpa [allW] using c2
      subst hx hy
      clear c1 c2 HC
      by_cases h0 : p = 0
      · have t1 : (p != 0) = false := by simp [h0]
        go_wp2_with (first | ((first | with_reducible refine at_load ?_ | ((with_reducible refine at_load_g ?_ ?_); (· rfl))); first | refine lc hM ?_ | refine ll hM ?_ | refine lp hM ?_) | ((with_reducible refine at_store ?_); first | (refine ls hM ?_; clear hM; intro wx hM) | (refine lw hM ?_; clear hM; intro wx hM) | (refine lt hM ?_; clear hM; intro wx hM)) | ((with_reducible refine at_alloc ?_); refine lz hM ?_; clear hM; intro gx wx hM) | ((with_reducible refine at_box ?_); refine lb hM ?_; clear hM; intro gx wx hM))
        go_ret
        exact ⟨ret_i (by rw [HV.out, if_pos h0]; omega), hM.below⟩
      · have t1 : (p != 0) = true := by simp [h0]
        have t2 : (p == 0) = false := by simp [h0]
        obtain ⟨u1, u2, u3, u4⟩ := HU.out h0
        have hpos : 0 < p := by omega
        go_wp2_with (first | ((first | with_reducible refine at_load ?_ | ((with_reducible refine at_load_g ?_ ?_); (· rfl))); first | refine lc hM ?_ | refine ll hM ?_ | refine lp hM ?_) | ((with_reducible refine at_store ?_); first | (refine ls hM ?_; clear hM; intro wx hM) | (refine lw hM ?_; clear hM; intro wx hM) | (refine lt hM ?_; clear hM; intro wx hM)) | ((with_reducible refine at_alloc ?_); refine lz hM ?_; clear hM; intro gx wx hM) | ((with_reducible refine at_box ?_); refine lb hM ?_; clear hM; intro gx wx hM))
        go_ret
        exact ⟨ret_i (by rw [HV.out, if_neg h0]), hM.below⟩
set_option maxRecDepth 20000 in
set_option maxHeartbeats 4000000 in
/-- Capacity in range. -/
theorem cap_yes (r d p a b : Int) (A : Option Addr) (n c : Nat) (ws : List Win) (w : World) (hc : chk r d p ws = 0) (ha : 0 ≤ a) (hab : a ≤ b) (hb : b ≤ 10000000) (hW : Wins w A n ws) (hv : 0 ≤ before p ws b - before p ws a) (hv2 : before p ws b - before p ws a ≤ 10000000) :
    Calls Try.prog 30 #[cfgV r d p A n c, .int .i64 a, .int .i64 b] w fun e w' => e = .returned (.int .i64 (r * (before p ws b - before p ws a))) ∧ Below w.heap.size w w' := by
  have hM := Mem.start [] w
  have HW := Lib.hid hW
  have hl := hW.len
  obtain ⟨hbad, hl32, _, _⟩ := chk_parts hc
  have HC := Lib.hid (fun w (h : Wins w A n ws) => check_any r d p A n c ws w (by omega) h)
  have HA := Lib.hid (fun w (h : Wins w A n ws) => before_any r d p a A n c ws w hc ha (by omega) h)
  have HB := Lib.hid (fun w (h : Wins w A n ws) => before_any r d p b A n c ws w hc (by omega) hb h)
  rw [hc] at HC
  generalize before p ws a = x at HA hv hv2 ⊢
  generalize before p ws b = y at HB hv hv2 ⊢
  have hr0 : 0 ≤ r ∧ r ≤ 1048576 := by unfold badC at hbad; omega
  have e1 : IntKind.i64.wrap (y - x) = y - x := IntWalk.i64_in _ ⟨by omega, by omega⟩
  have e2 : IntKind.i64.wrap (r * (y - x)) = r * (y - x) := by
    have h1 : 0 ≤ r * (y - x) := Int.mul_nonneg hr0.1 hv
    have h2 : r * (y - x) ≤ 1048576 * 10000000 := Int.mul_le_mul hr0.2 hv2 hv (by decide)
    exact IntWalk.i64_in _ ⟨by omega, by omega⟩
  have s1 : decide (a < 0) = false := by simpa using ha
  have s2 : decide (b < a) = false := by simpa using hab
  have s3 : decide (10000000 < b) = false := by simpa using hb
  clear hW hl hbad hl32 hc hr0 ha hab hb hv hv2
  go_enter Try.func30, Try.ntmps30
  go_wp2_with (first | ((first | with_reducible refine at_load ?_ | ((with_reducible refine at_load_g ?_ ?_); (· rfl))); first | refine lc hM ?_ | refine ll hM ?_ | refine lp hM ?_) | ((with_reducible refine at_store ?_); first | (refine ls hM ?_; clear hM; intro wx hM) | (refine lw hM ?_; clear hM; intro wx hM) | (refine lt hM ?_; clear hM; intro wx hM)) | ((with_reducible refine at_alloc ?_); refine lz hM ?_; clear hM; intro gx wx hM) | ((with_reducible refine at_box ?_); refine lb hM ?_; clear hM; intro gx wx hM) | ((with_reducible refine (HC.out _ (HW.out.keep hM.below)).mono ?_); rintro e w1 ⟨rfl, hb1⟩; replace hM := hM.step hb1; clear hb1))
  refine Go.Bul.wp_region_class (Mem _ w _ _) (by kernel_rfl) (by kernel_rfl) hM.drew ?_
  repeat ((with_reducible refine wpQuiet_step (fun K hK => ?_)); (first | ((first | ((with_reducible refine quiet_some ?_ ?_); (· rfl)) | ((with_reducible refine quiet_wanted ?_ ?_); (· rfl))); apply Exists.intro; refine ⟨fun w' hM' => ?_, ?_⟩; (· first | exact qc hM' | exact ql hM' | exact qp hM' | (go_simp; with_reducible refine at_calls ?_; first | exact quiet_mem_call hM' (HA.out _ (HW.out.keep hM'.below)) | exact quiet_mem_call hM' (HB.out _ (HW.out.keep hM'.below))) | (go_simp; rfl))) | ((with_reducible refine quiet_unwanted ?_ ?_); (· rfl))); go_simp; (with_reducible refine hK _ ?_); clear hK K)
  refine wpQuiet_nil ?_
  intro wx hM
  go_wp2_with fail
  go_ret
  exact ⟨rfl, hM.below⟩
/-- Capacity out of range. -/
theorem cap_no (r d p a b : Int) (A : Option Addr) (n c : Nat) (ws : List Win) (w : World) (hn : n ≤ 1000) (hW : Wins w A n ws) (h : a < 0 ∨ b < a ∨ 10000000 < b ∨ chk r d p ws ≠ 0) :
    Calls Try.prog 30 #[cfgV r d p A n c, .int .i64 a, .int .i64 b] w fun e w' => e = .returned (.int .i64 0) ∧ Below w.heap.size w w' := by
  have hM := Mem.start [] w
  have HW := Lib.hid hW
  have HC := Lib.hid (fun w (h : Wins w A n ws) => check_any r d p A n c ws w hn h)
  rcases (show a < 0 ∨ (0 ≤ a ∧ b < a) ∨ (0 ≤ a ∧ a ≤ b ∧ 10000000 < b) ∨ (0 ≤ a ∧ a ≤ b ∧ b ≤ 10000000 ∧ chk r d p ws ≠ 0) by omega) with h1 | h1 | h1 | h1
  · have s1 : decide (a < 0) = true := by simpa using h1
    clear h h1 hW
    go_enter Try.func30, Try.ntmps30
    go_wp2_with (first | ((first | with_reducible refine at_load ?_ | ((with_reducible refine at_load_g ?_ ?_); (· rfl))); first | refine lc hM ?_ | refine ll hM ?_ | refine lp hM ?_) | ((with_reducible refine at_store ?_); first | (refine ls hM ?_; clear hM; intro wx hM) | (refine lw hM ?_; clear hM; intro wx hM) | (refine lt hM ?_; clear hM; intro wx hM)) | ((with_reducible refine at_alloc ?_); refine lz hM ?_; clear hM; intro gx wx hM) | ((with_reducible refine at_box ?_); refine lb hM ?_; clear hM; intro gx wx hM))
    go_ret
    exact ⟨rfl, hM.below⟩
  · have s1 : decide (a < 0) = false := by simp; omega
    have s2 : decide (b < a) = true := by simp; omega
    clear h h1 hW
    go_enter Try.func30, Try.ntmps30
    go_wp2_with (first | ((first | with_reducible refine at_load ?_ | ((with_reducible refine at_load_g ?_ ?_); (· rfl))); first | refine lc hM ?_ | refine ll hM ?_ | refine lp hM ?_) | ((with_reducible refine at_store ?_); first | (refine ls hM ?_; clear hM; intro wx hM) | (refine lw hM ?_; clear hM; intro wx hM) | (refine lt hM ?_; clear hM; intro wx hM)) | ((with_reducible refine at_alloc ?_); refine lz hM ?_; clear hM; intro gx wx hM) | ((with_reducible refine at_box ?_); refine lb hM ?_; clear hM; intro gx wx hM))
    go_ret
    exact ⟨rfl, hM.below⟩
  · have s1 : decide (a < 0) = false := by simp; omega
    have s2 : decide (b < a) = false := by simp; omega
    have s3 : decide (10000000 < b) = true := by simp; omega
    clear h h1 hW
    go_enter Try.func30, Try.ntmps30
    go_wp2_with (first | ((first | with_reducible refine at_load ?_ | ((with_reducible refine at_load_g ?_ ?_); (· rfl))); first | refine lc hM ?_ | refine ll hM ?_ | refine lp hM ?_) | ((with_reducible refine at_store ?_); first | (refine ls hM ?_; clear hM; intro wx hM) | (refine lw hM ?_; clear hM; intro wx hM) | (refine lt hM ?_; clear hM; intro wx hM)) | ((with_reducible refine at_alloc ?_); refine lz hM ?_; clear hM; intro gx wx hM) | ((with_reducible refine at_box ?_); refine lb hM ?_; clear hM; intro gx wx hM))
    go_ret
    exact ⟨rfl, hM.below⟩
  · have s1 : decide (a < 0) = false := by simp; omega
    have s2 : decide (b < a) = false := by simp; omega
    have s3 : decide (10000000 < b) = false := by simp; omega
    have s4 : (chk r d p ws != 0) = true := by simpa using h1.2.2.2
    clear h h1 hW
    generalize chk r d p ws = X at HC s4
    go_enter Try.func30, Try.ntmps30
    go_wp2_with (first | ((first | with_reducible refine at_load ?_ | ((with_reducible refine at_load_g ?_ ?_); (· rfl))); first | refine lc hM ?_ | refine ll hM ?_ | refine lp hM ?_) | ((with_reducible refine at_store ?_); first | (refine ls hM ?_; clear hM; intro wx hM) | (refine lw hM ?_; clear hM; intro wx hM) | (refine lt hM ?_; clear hM; intro wx hM)) | ((with_reducible refine at_alloc ?_); refine lz hM ?_; clear hM; intro gx wx hM) | ((with_reducible refine at_box ?_); refine lb hM ?_; clear hM; intro gx wx hM) | ((with_reducible refine (HC.out _ (HW.out.keep hM.below)).mono ?_); rintro e w1 ⟨rfl, hb1⟩; replace hM := hM.step hb1; clear hb1))
    go_ret
    exact ⟨rfl, hM.below⟩
end Go.Proofs.Ytenflgbaibjeoaa
