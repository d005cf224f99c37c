/- Contract of Next. -/
import Derived.Test.YtenflgbaibjeoaaLcg
import Derived.Test.YtenflgbaibjeoaaLce
namespace Go.Lin
theorem findP_step {m : Int} {ws : List Win} {k : Nat} (h : k < ws.length) : findP m (ws.drop k) = if m < ws[k].2 then some (max m ws[k].1) else findP m (ws.drop (k + 1)) := by
  rw [List.drop_eq_getElem_cons h]
  rfl
theorem nextP_no {p : Int} {ws : List Win} {T : Int} (hp0 : p = 0) (h : findP (phase p T) ws = none) : nextP p ws T = none := by
  unfold nextP
  rw [h]
  cases ws with
  | nil => rfl
  | cons w ws => obtain ⟨f, t⟩ := w; simp [hp0]
theorem nextP_wrap {p : Int} {ws : List Win} {T : Int} (hp0 : ¬ p = 0) (h : findP (phase p T) ws = none) (hl : 0 < ws.length) : nextP p ws T = some (T - phase p T + p + ws[0].1) := by
  unfold nextP
  rw [h]
  cases ws with
  | nil => cases hl
  | cons w ws => obtain ⟨f, t⟩ := w; simp [hp0]
/-- What Next answers. -/
def nextO (r d p : Int) (ws : List Win) (m : Int) : Option Int := if 1099511627776 < m ∨ chk r d p ws ≠ 0 then none else nextP p ws (max m 0)
end Go.Lin
namespace Go.Proofs.Ytenflgbaibjeoaa
open Go Go.RowKit Go.Bul Go.Thg Go.Lin
def nextE (o : Option Int) : Ending := match o with
  | some x => .returned (.tuple #[.int .i64 x, .bool true])
  | none => .returned (.tuple #[.int .i64 0, .bool false])
theorem nextE_some {o : Option Int} {x : Int} (h : o = some x) : Ending.returned (.tuple #[.int .i64 x, .bool true]) = nextE o := by rw [h]; rfl
theorem nextE_none {o : Option Int} (h : o = none) : Ending.returned (.tuple #[.int .i64 0, .bool false]) = nextE o := by rw [h]; rfl
set_option maxRecDepth 20000 in
set_option maxHeartbeats 4000000 in
theorem next_yes (r d p m : Int) (A : Option Addr) (n c : Nat) (ws : List Win) (w : World) (hc : chk r d p ws = 0) (hm : m ≤ 1099511627776) (hne : 0 < ws.length) (hW : Wins w A n ws) :
    Calls Try.prog 31 #[cfgV r d p A n c, .int .i64 m] w fun e w' => e = nextE (nextP p ws (max m 0)) ∧ Below w.heap.size w w' := by
  have hM := Mem.start [] w
  obtain ⟨hb, hl32, hp, hv'⟩ := chk_parts hc
  have hv : ∀ x ∈ ws, 0 ≤ x.1 ∧ x.1 < x.2 ∧ x.2 ≤ 10000000 := fun x hx => by
    have h1 := valid_mem hv' x hx
    have : mostOf p ≤ 10000000 := by unfold badC at hb; unfold mostOf; split <;> omega
    omega
  have hp2 : p ≤ 10000000 := by unfold badC at hb; omega
  have HW := Lib.hid hW
  have HL := Lib.hid hW.len
  have hn32 : n ≤ 32 := by have := HL.out; omega
  have hn0 : 0 < n := by have := HL.out; omega
  have c0 : decide ((1099511627776 : Int) < m) = false := decide_eq_false (by omega)
  have c2 : ((n : Int) == 0) = false := by simp; omega
  have HK := Lib.hid (fun w hW => check_any r d p A n c ws w (by omega) hW)
  rw [hc] at HK
  clear hb hv' hne hc hW
  obtain ⟨T, hT⟩ : ∃ T : Int, (if m < 0 then (0 : Int) else m) = T := ⟨_, rfl⟩
  have hT2 : (m < 0 ∧ T = 0) ∨ (0 ≤ m ∧ T = m) := by split at hT <;> omega
  rw [show max m 0 = T by omega]
  have h0T : 0 ≤ T := by omega
  have h2T : T ≤ 1099511627776 := by omega
  clear hT2
  have hph := phase_range hp h0T
  have HP := Lib.hid (fun w => phase_any r d p T A n c w hp h0T (by omega) (by omega))
  obtain ⟨q, hq⟩ : ∃ q, q = phase p T := ⟨_, rfl⟩
  rw [← hq] at HP hph
  obtain ⟨q0, q1⟩ := hph
  have HQ := Lib.hid hq
  have HV := Lib.hid hv
  clear hv hq
  go_enter Try.func31, Try.ntmps31
  go_wp2_with (first | ((with_reducible refine (HK.out _ (HW.out.keep hM.below)).mono ?_); rintro e w1 ⟨rfl, hb1⟩; replace hM := hM.step hb1; clear hb1) | ((with_reducible refine (HP.out _).mono ?_); rintro e w1 ⟨rfl, hb1⟩; replace hM := hM.step hb1; clear hb1) | ((first | with_reducible refine at_load ?_ | ((with_reducible refine at_load_g ?_ ?_); (· rfl))); first | refine lc hM ?_ | refine ll hM ?_ | refine lp hM ?_) | ((with_reducible refine at_store ?_); first | (refine ls hM ?_; clear hM; intro wx hM) | (refine lw hM ?_; clear hM; intro wx hM) | (refine lt hM ?_; clear hM; intro wx hM)) | ((with_reducible refine at_alloc ?_); refine lz hM ?_; clear hM; intro gx wx hM) | ((with_reducible refine at_box ?_); refine lb hM ?_; clear hM; intro gx wx hM))
  obtain ⟨g0, rfl⟩ := hM.name1
  have M0 := Lib.hid hM
  clear hM HP HK
  go_loopw [30] (fun i wr => ∃ k : Nat, k ≤ n ∧ i = .int .i64 (k : Nat) ∧ Hid (findP q ws = findP q (ws.drop k)) ∧ Mem [] w [⟨g0, 27, 4, cfgCs r d p A n c⟩] [] wr) (fun i _ => n - (intOf i).toNat)
  case atStart => exact ⟨0, by omega, rfl, Lib.hid rfl, M0.out⟩
  case round =>
    obtain ⟨k, hk, rfl, HC, hM⟩ := hrel
    by_cases hlt : k < n
    · have hkl : k < ws.length := by have := HL.out; omega
      have hst := findP_step (m := q) hkl
      obtain ⟨f0, f1, f2⟩ := HV.out _ (List.getElem_mem hkl)
      obtain ⟨g, off, rfl, hgl, _⟩ := HW.out.2 (by omega)
      have hcell := (HW.out.keep hM.below).cell k hkl
      obtain ⟨f, hf⟩ : ∃ f, f = ws[k].1 := ⟨_, rfl⟩
      obtain ⟨t, ht⟩ : ∃ t, t = ws[k].2 := ⟨_, rfl⟩
      rw [← hf, ← ht] at hcell hst f1
      rw [← hf] at f0
      rw [← ht] at f2
      have HX := Lib.hid hcell
      clear hcell hf ht
      have hk0 : (0 : Int) ≤ (k : Int) := Int.natCast_nonneg _
      have hk1 : (k : Int) < (n : Int) := by omega
      by_cases hqt : q < t
      · have hr : nextP p ws T = some (T - q + max q f) := by unfold nextP; rw [← HQ.out, HC.out, hst, if_pos hqt]
        have HR := Lib.hid hr
        clear hst hr
        by_cases hqf : q < f
        · have em : max q f = f := by omega
          rw [em] at HR
          clear em
          go_wp2_with (first | ((with_reducible refine at_load ?_); refine lr HX.out ?_) | ((first | with_reducible refine at_load ?_ | ((with_reducible refine at_load_g ?_ ?_); (· rfl))); first | refine lc hM ?_ | refine ll hM ?_ | refine lp hM ?_) | ((with_reducible refine at_store ?_); first | (refine ls hM ?_; clear hM; intro wx hM) | (refine lw hM ?_; clear hM; intro wx hM) | (refine lt hM ?_; clear hM; intro wx hM)) | ((with_reducible refine at_alloc ?_); refine lz hM ?_; clear hM; intro gx wx hM) | ((with_reducible refine at_box ?_); refine lb hM ?_; clear hM; intro gx wx hM))
          go_ret2
          exact ⟨nextE_some HR.out, hM.below⟩
        · have em : max q f = q := by omega
          rw [em] at HR
          clear em
          go_wp2_with (first | ((with_reducible refine at_load ?_); refine lr HX.out ?_) | ((first | with_reducible refine at_load ?_ | ((with_reducible refine at_load_g ?_ ?_); (· rfl))); first | refine lc hM ?_ | refine ll hM ?_ | refine lp hM ?_) | ((with_reducible refine at_store ?_); first | (refine ls hM ?_; clear hM; intro wx hM) | (refine lw hM ?_; clear hM; intro wx hM) | (refine lt hM ?_; clear hM; intro wx hM)) | ((with_reducible refine at_alloc ?_); refine lz hM ?_; clear hM; intro gx wx hM) | ((with_reducible refine at_box ?_); refine lb hM ?_; clear hM; intro gx wx hM))
          go_ret2
          exact ⟨nextE_some (by rw [HR.out]; congr 1; omega), hM.below⟩
      · have hr : findP q ws = findP q (ws.drop (k + 1)) := by rw [HC.out, hst, if_neg hqt]
        have HR := Lib.hid hr
        clear hst hr
        go_wp2_with (first | ((with_reducible refine at_load ?_); refine lr HX.out ?_) | ((first | with_reducible refine at_load ?_ | ((with_reducible refine at_load_g ?_ ?_); (· rfl))); first | refine lc hM ?_ | refine ll hM ?_ | refine lp hM ?_) | ((with_reducible refine at_store ?_); first | (refine ls hM ?_; clear hM; intro wx hM) | (refine lw hM ?_; clear hM; intro wx hM) | (refine lt hM ?_; clear hM; intro wx hM)) | ((with_reducible refine at_alloc ?_); refine lz hM ?_; clear hM; intro gx wx hM) | ((with_reducible refine at_box ?_); refine lb hM ?_; clear hM; intro gx wx hM))
        exact ⟨⟨k + 1, by omega, by go_num, HR, ((hM.subL (by repeat (first | exact List.Sublist.refl _ | exact List.nil_sublist _ | apply List.Sublist.cons_cons | apply List.Sublist.cons))).subR (by repeat (first | exact List.Sublist.refl _ | exact List.nil_sublist _ | apply List.Sublist.cons_cons | apply List.Sublist.cons)))⟩, by simp [intOf]; omega⟩
    · obtain rfl : k = n := by omega
      have hr : findP q ws = none := by rw [HC.out, List.drop_of_length_le (by have := HL.out; omega)]; rfl
      have HR := Lib.hid hr
      clear hr
      by_cases hp0 : p = 0
      · have t1 : (p == 0) = true := by simp [hp0]
        have HN := Lib.hid (nextP_no (ws := ws) (T := T) hp0 (HQ.out ▸ HR.out))
        clear hp0
        go_wp2_with (first | ((first | with_reducible refine at_load ?_ | ((with_reducible refine at_load_g ?_ ?_); (· rfl))); first | refine lc hM ?_ | refine ll hM ?_ | refine lp hM ?_) | ((with_reducible refine at_store ?_); first | (refine ls hM ?_; clear hM; intro wx hM) | (refine lw hM ?_; clear hM; intro wx hM) | (refine lt hM ?_; clear hM; intro wx hM)) | ((with_reducible refine at_alloc ?_); refine lz hM ?_; clear hM; intro gx wx hM) | ((with_reducible refine at_box ?_); refine lb hM ?_; clear hM; intro gx wx hM))
        go_ret2
        exact ⟨nextE_none HN.out, hM.below⟩
      · have t1 : (p == 0) = false := by simp [hp0]
        have hkl : 0 < ws.length := by have := HL.out; omega
        obtain ⟨f0, f1, f2⟩ := HV.out _ (List.getElem_mem hkl)
        obtain ⟨g, off, rfl, hgl, _⟩ := HW.out.2 (by omega)
        have hcell := fun w' (hb : Below w.heap.size w w') => (HW.out.keep hb).c0 0 hkl
        have hr : nextP p ws T = some (T - q + p + ws[0].1) := by rw [HQ.out]; exact nextP_wrap hp0 (HQ.out ▸ HR.out) hkl
        obtain ⟨f, hf⟩ : ∃ f, f = ws[0].1 := ⟨_, rfl⟩
        rw [← hf] at hcell hr f0 f1
        have HX := Lib.hid hcell
        have HN := Lib.hid hr
        clear hcell hf hr hp0 HR HC
        have w1 : IntKind.i64.wrap (T - q) = T - q := IntWalk.i64_in _ ⟨by omega, by omega⟩
        have w2 : IntKind.i64.wrap (T - q + p) = T - q + p := IntWalk.i64_in _ ⟨by omega, by omega⟩
        have w3 : IntKind.i64.wrap (T - q + p + f) = T - q + p + f := IntWalk.i64_in _ ⟨by omega, by omega⟩
        have hn1 : (0 : Int) < (k : Int) := by omega
        go_wp2_with (first | ((first | with_reducible refine at_load ?_ | ((with_reducible refine at_load_g ?_ ?_); (· rfl))); first | refine lc hM ?_ | refine ll hM ?_ | refine lp hM ?_) | ((with_reducible refine at_store ?_); first | (refine ls hM ?_; clear hM; intro wx hM) | (refine lw hM ?_; clear hM; intro wx hM) | (refine lt hM ?_; clear hM; intro wx hM)) | ((with_reducible refine at_alloc ?_); refine lz hM ?_; clear hM; intro gx wx hM) | ((with_reducible refine at_box ?_); refine lb hM ?_; clear hM; intro gx wx hM))
        refine Go.Bul.wp_region_class (Mem _ w _ _) (by kernel_rfl) (by kernel_rfl) hM.drew ?_
        repeat ((with_reducible refine wpQuiet_step (fun K hK => ?_)); (first | ((first | ((with_reducible refine quiet_some ?_ ?_); (· rfl)) | ((with_reducible refine quiet_wanted ?_ ?_); (· rfl))); apply Exists.intro; refine ⟨fun w' hM' => ?_, ?_⟩; (· first | (go_simp; rfl) | exact qc hM' | exact qo (HX.out _ hM'.below) | exact ql hM' | exact qp hM')) | ((with_reducible refine quiet_unwanted ?_ ?_); (· rfl))); go_simp; (with_reducible refine hK _ ?_); clear hK K)
        refine wpQuiet_nil ?_
        intro wx hM
        go_wp2_with fail
        go_ret2
        exact ⟨nextE_some HN.out, hM.below⟩
set_option maxRecDepth 20000 in
set_option maxHeartbeats 4000000 in
theorem next_no (r d p m : Int) (A : Option Addr) (n c : Nat) (ws : List Win) (w : World) (hn : n ≤ 1000) (hW : Wins w A n ws) (h : 1099511627776 < m ∨ chk r d p ws ≠ 0 ∨ ws.length = 0) :
    Calls Try.prog 31 #[cfgV r d p A n c, .int .i64 m] w fun e w' => e = nextE none ∧ Below w.heap.size w w' := by
  have hM := Mem.start [] w
  have HW := Lib.hid hW
  have HL := Lib.hid hW.len
  have HK := Lib.hid (fun w hW => check_any r d p A n c ws w hn hW)
  obtain ⟨z, hz⟩ : ∃ z, chk r d p ws = z := ⟨_, rfl⟩
  rw [hz] at HK h
  by_cases h1 : 1099511627776 < m
  · have c0 : decide ((1099511627776 : Int) < m) = true := decide_eq_true h1
    clear hW hn h h1 hz
    go_enter Try.func31, Try.ntmps31
    go_wp2_with (first | ((with_reducible refine (HK.out _ (HW.out.keep hM.below)).mono ?_); rintro e w1 ⟨rfl, hb1⟩; replace hM := hM.step hb1; clear hb1) | ((first | with_reducible refine at_load ?_ | ((with_reducible refine at_load_g ?_ ?_); (· rfl))); first | refine lc hM ?_ | refine ll hM ?_ | refine lp hM ?_) | ((with_reducible refine at_store ?_); first | (refine ls hM ?_; clear hM; intro wx hM) | (refine lw hM ?_; clear hM; intro wx hM) | (refine lt hM ?_; clear hM; intro wx hM)) | ((with_reducible refine at_alloc ?_); refine lz hM ?_; clear hM; intro gx wx hM) | ((with_reducible refine at_box ?_); refine lb hM ?_; clear hM; intro gx wx hM))
    go_ret2
    exact ⟨rfl, hM.below⟩
  · have c0 : decide ((1099511627776 : Int) < m) = false := decide_eq_false h1
    by_cases h2 : z = 0
    · have hl : n = 0 := by have := HL.out; omega
      subst h2 hl
      clear hW hn h h1 hz
      go_enter Try.func31, Try.ntmps31
      go_wp2_with (first | ((with_reducible refine (HK.out _ (HW.out.keep hM.below)).mono ?_); rintro e w1 ⟨rfl, hb1⟩; replace hM := hM.step hb1; clear hb1) | ((first | with_reducible refine at_load ?_ | ((with_reducible refine at_load_g ?_ ?_); (· rfl))); first | refine lc hM ?_ | refine ll hM ?_ | refine lp hM ?_) | ((with_reducible refine at_store ?_); first | (refine ls hM ?_; clear hM; intro wx hM) | (refine lw hM ?_; clear hM; intro wx hM) | (refine lt hM ?_; clear hM; intro wx hM)) | ((with_reducible refine at_alloc ?_); refine lz hM ?_; clear hM; intro gx wx hM) | ((with_reducible refine at_box ?_); refine lb hM ?_; clear hM; intro gx wx hM))
      go_ret2
      exact ⟨rfl, hM.below⟩
    · have c1 : (z != 0) = true := by simpa using h2
      clear hW hn h h1 h2 hz
      go_enter Try.func31, Try.ntmps31
      go_wp2_with (first | ((with_reducible refine (HK.out _ (HW.out.keep hM.below)).mono ?_); rintro e w1 ⟨rfl, hb1⟩; replace hM := hM.step hb1; clear hb1) | ((first | with_reducible refine at_load ?_ | ((with_reducible refine at_load_g ?_ ?_); (· rfl))); first | refine lc hM ?_ | refine ll hM ?_ | refine lp hM ?_) | ((with_reducible refine at_store ?_); first | (refine ls hM ?_; clear hM; intro wx hM) | (refine lw hM ?_; clear hM; intro wx hM) | (refine lt hM ?_; clear hM; intro wx hM)) | ((with_reducible refine at_alloc ?_); refine lz hM ?_; clear hM; intro gx wx hM) | ((with_reducible refine at_box ?_); refine lb hM ?_; clear hM; intro gx wx hM))
      go_ret2
      exact ⟨rfl, hM.below⟩
theorem next_any (r d p m : Int) (A : Option Addr) (n c : Nat) (ws : List Win) (w : World) (hn : n ≤ 1000) (hW : Wins w A n ws) :
    Calls Try.prog 31 #[cfgV r d p A n c, .int .i64 m] w fun e w' => e = nextE (nextO r d p ws m) ∧ Below w.heap.size w w' := by
  by_cases h : 1099511627776 < m ∨ chk r d p ws ≠ 0
  · rw [nextO, if_pos h]
    exact next_no r d p m A n c ws w hn hW (h.elim .inl fun h => .inr (.inl h))
  · rw [nextO, if_neg h]
    by_cases hl : ws.length = 0
    · have e : nextP p ws (max m 0) = none := by
        obtain rfl := List.eq_nil_of_length_eq_zero hl
        rfl
      rw [e]
      exact next_no r d p m A n c ws w hn hW (.inr (.inr hl))
    · exact next_yes r d p m A n c ws w (by omega) (by omega) (by omega) hW
end Go.Proofs.Ytenflgbaibjeoaa
