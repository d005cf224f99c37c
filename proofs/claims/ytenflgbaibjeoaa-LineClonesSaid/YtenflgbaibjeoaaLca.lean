/- Contracts of line.Config: phase, connected. -/
import Derived.Test.YtenflgbaibjeoaaLnt
import Derived.IntWalk
import Derived.Lib.Hide
namespace Go.Lin
theorem conP_step {m : Int} {ws : List Win} {k : Nat} (h : k < ws.length) : conP m (ws.drop k) = if m < ws[k].2 then decide (ws[k].1 ≤ m) else conP m (ws.drop (k + 1)) := by
  rw [List.drop_eq_getElem_cons h]
  rfl
end Go.Lin
namespace Go.Proofs.Ytenflgbaibjeoaa
open Go Go.RowKit Go.Bul Go.Thg Go.Lin
/-- A description, as a value. -/
abbrev cfgV (r d p : Int) (A : Option Addr) (n c : Nat) : Value := .agg #[.int .i64 r, .int .i64 d, .int .i64 p, .slice A n c]
abbrev cfgCs (r d p : Int) (A : Option Addr) (n c : Nat) : Array Value := #[.int .i64 r, .int .i64 d, .int .i64 p, .slice A n c]
theorem ret_i {k : IntKind} {a b : Int} (h : a = b) : Ending.returned (.int k a) = .returned (.int k b) := by rw [h]
theorem ret_b {a b : Bool} (h : a = b) : Ending.returned (.bool a) = .returned (.bool b) := by rw [h]
set_option maxRecDepth 20000 in
theorem phase_any (r d p m : Int) (A : Option Addr) (n c : Nat) (w : World) (h0 : 0 ≤ p) (hm : 0 ≤ m) (hm2 : m ≤ 9223372036854775807) (hp2 : p ≤ 9223372036854775807) :
    Calls Try.prog 48 #[cfgV r d p A n c, .int .i64 m] w fun e w' => e = .returned (.int .i64 (phase p m)) ∧ Below w.heap.size w w' := by
  have hM := Mem.start [] w
  by_cases hp : p = 0
  · have e : phase p m = m := by simp [phase, hp]
    rw [e]
    have t1 : (p != 0) = false := by simp [hp]
    clear h0
    go_enter Try.func48, Try.ntmps48
    go_wp2_with (first | ((first | with_reducible refine at_load ?_ | ((with_reducible refine at_load_g ?_ ?_); (· rfl))); first | refine lc hM ?_ | refine ll hM ?_ | refine lp hM ?_) | ((with_reducible refine at_store ?_); first | (refine ls hM ?_; clear hM; intro wx hM) | (refine lw hM ?_; clear hM; intro wx hM) | (refine lt hM ?_; clear hM; intro wx hM)) | ((with_reducible refine at_alloc ?_); refine lz hM ?_; clear hM; intro gx wx hM) | ((with_reducible refine at_box ?_); refine lb hM ?_; clear hM; intro gx wx hM))
    go_ret
    exact ⟨rfl, hM.below⟩
  · have e : phase p m = m % p := by simp [phase, hp]
    rw [e]
    have t1 : (p != 0) = true := by simp [hp]
    have t2 : (p == 0) = false := by simp [hp]
    have hpos : 0 < p := by omega
    clear h0
    go_enter Try.func48, Try.ntmps48
    go_wp2_with (first | ((first | with_reducible refine at_load ?_ | ((with_reducible refine at_load_g ?_ ?_); (· rfl))); first | refine lc hM ?_ | refine ll hM ?_ | refine lp hM ?_) | ((with_reducible refine at_store ?_); first | (refine ls hM ?_; clear hM; intro wx hM) | (refine lw hM ?_; clear hM; intro wx hM) | (refine lt hM ?_; clear hM; intro wx hM)) | ((with_reducible refine at_alloc ?_); refine lz hM ?_; clear hM; intro gx wx hM) | ((with_reducible refine at_box ?_); refine lb hM ?_; clear hM; intro gx wx hM))
    go_ret
    exact ⟨rfl, hM.below⟩
theorem emod_le {p m : Int} (hm : 0 ≤ m) (hp : 0 < p) : m % p ≤ m := by
  have h1 := Int.mul_ediv_add_emod m p
  have h2 := Int.ediv_nonneg hm (Int.le_of_lt hp)
  have h3 := Int.mul_nonneg (Int.le_of_lt hp) h2
  omega
theorem phase_range {p m : Int} (h0 : 0 ≤ p) (hm : 0 ≤ m) : 0 ≤ phase p m ∧ phase p m ≤ m := by
  unfold phase
  split
  · omega
  · exact ⟨Int.emod_nonneg m (by omega), emod_le hm (by omega)⟩
set_option maxRecDepth 20000 in
theorem connected_any (r d p m : Int) (A : Option Addr) (n c : Nat) (ws : List Win) (w : World) (h0 : 0 ≤ p) (hm : 0 ≤ m) (hm2 : m ≤ 9223372036854775807) (hp2 : p ≤ 9223372036854775807) (hn : n ≤ 1000) (hW : Wins w A n ws) :
    Calls Try.prog 42 #[cfgV r d p A n c, .int .i64 m] w fun e w' => e = .returned (.bool (conP (phase p m) ws)) ∧ Below w.heap.size w w' := by
  have hM := Mem.start [] w
  have HP := Lib.hid (fun w => phase_any r d p m A n c w h0 hm hm2 hp2)
  obtain ⟨q0, q1⟩ := phase_range h0 hm
  obtain ⟨q, hq⟩ : ∃ q, q = phase p m := ⟨_, rfl⟩
  rw [← hq] at HP q0 q1 ⊢
  have HW := Lib.hid hW
  have HL := Lib.hid hW.len
  clear hW h0 hm hp2 hq
  go_enter Try.func42, Try.ntmps42
  go_wp2_with (first | ((first | with_reducible refine at_load ?_ | ((with_reducible refine at_load_g ?_ ?_); (· rfl))); first | refine lc hM ?_ | refine ll hM ?_ | refine lp hM ?_) | ((with_reducible refine at_store ?_); first | (refine ls hM ?_; clear hM; intro wx hM) | (refine lw hM ?_; clear hM; intro wx hM) | (refine lt hM ?_; clear hM; intro wx hM)) | ((with_reducible refine at_alloc ?_); refine lz hM ?_; clear hM; intro gx wx hM) | ((with_reducible refine at_box ?_); refine lb hM ?_; clear hM; intro gx wx hM) | ((with_reducible refine (HP.out _).mono ?_); rintro e w1 ⟨rfl, hb1⟩; replace hM := hM.step hb1; clear hb1))
  obtain ⟨g0, rfl⟩ := hM.name1
  have M0 := Lib.hid hM
  clear hM HP
  go_loopw [14] (fun i wr => ∃ k : Nat, k ≤ n ∧ i = .int .i64 (k : Nat) ∧ Hid (conP q ws = conP q (ws.drop k)) ∧ Mem [] w [⟨g0, 27, 4, cfgCs r d p A n c⟩] [] wr) (fun i _ => n - (intOf i).toNat)
  case atStart => exact ⟨0, by omega, rfl, Lib.hid rfl, M0.out⟩
  case round =>
    obtain ⟨k, hk, rfl, HC, hM⟩ := hrel
    by_cases hlt : k < n
    · have hkl : k < ws.length := by have := HL.out; omega
      have hst := conP_step (m := q) hkl
      obtain ⟨g, off, rfl, hgl, _⟩ := HW.out.2 (by omega)
      have hcell := (HW.out.keep hM.below).cell k hkl
      obtain ⟨f, hf⟩ : ∃ f, f = ws[k].1 := ⟨_, rfl⟩
      obtain ⟨t, ht⟩ : ∃ t, t = ws[k].2 := ⟨_, rfl⟩
      rw [← hf, ← ht] at hcell hst
      have HX := Lib.hid hcell
      clear hcell hf ht
      have hk0 : (0 : Int) ≤ (k : Int) := Int.natCast_nonneg _
      have hk1 : (k : Int) < (n : Int) := by omega
      by_cases hqt : q < t
      · have hr : conP q ws = decide (f ≤ q) := by rw [HC.out, hst, if_pos hqt]
        have HR := Lib.hid hr
        clear hst hr
        go_wp2_with (first | ((with_reducible refine at_load ?_); refine lr HX.out ?_) | ((first | with_reducible refine at_load ?_ | ((with_reducible refine at_load_g ?_ ?_); (· rfl))); first | refine lc hM ?_ | refine ll hM ?_ | refine lp hM ?_) | ((with_reducible refine at_store ?_); first | (refine ls hM ?_; clear hM; intro wx hM) | (refine lw hM ?_; clear hM; intro wx hM) | (refine lt hM ?_; clear hM; intro wx hM)) | ((with_reducible refine at_alloc ?_); refine lz hM ?_; clear hM; intro gx wx hM) | ((with_reducible refine at_box ?_); refine lb hM ?_; clear hM; intro gx wx hM))
        go_ret
        exact ⟨ret_b HR.out.symm, hM.below⟩
      · have hr : conP q ws = conP q (ws.drop (k + 1)) := by rw [HC.out, hst, if_neg hqt]
        have HR := Lib.hid hr
        clear hst hr
        go_wp2_with (first | ((with_reducible refine at_load ?_); refine lr HX.out ?_) | ((first | with_reducible refine at_load ?_ | ((with_reducible refine at_load_g ?_ ?_); (· rfl))); first | refine lc hM ?_ | refine ll hM ?_ | refine lp hM ?_) | ((with_reducible refine at_store ?_); first | (refine ls hM ?_; clear hM; intro wx hM) | (refine lw hM ?_; clear hM; intro wx hM) | (refine lt hM ?_; clear hM; intro wx hM)) | ((with_reducible refine at_alloc ?_); refine lz hM ?_; clear hM; intro gx wx hM) | ((with_reducible refine at_box ?_); refine lb hM ?_; clear hM; intro gx wx hM))
        exact ⟨⟨k + 1, by omega, by go_num, HR, ((hM.subL (by repeat (first | exact List.Sublist.refl _ | exact List.nil_sublist _ | apply List.Sublist.cons_cons | apply List.Sublist.cons))).subR (by repeat (first | exact List.Sublist.refl _ | exact List.nil_sublist _ | apply List.Sublist.cons_cons | apply List.Sublist.cons)))⟩, by simp [intOf]; omega⟩
    · obtain rfl : k = n := by omega
      have hr : conP q ws = false := by rw [HC.out, List.drop_of_length_le (by have := HL.out; omega)]; rfl
      have HR := Lib.hid hr
      clear hr
      go_wp2_with (first | ((first | with_reducible refine at_load ?_ | ((with_reducible refine at_load_g ?_ ?_); (· rfl))); first | refine lc hM ?_ | refine ll hM ?_ | refine lp hM ?_) | ((with_reducible refine at_store ?_); first | (refine ls hM ?_; clear hM; intro wx hM) | (refine lw hM ?_; clear hM; intro wx hM) | (refine lt hM ?_; clear hM; intro wx hM)) | ((with_reducible refine at_alloc ?_); refine lz hM ?_; clear hM; intro gx wx hM) | ((with_reducible refine at_box ?_); refine lb hM ?_; clear hM; intro gx wx hM))
      go_ret
      exact ⟨ret_b HR.out.symm, hM.below⟩
end Go.Proofs.Ytenflgbaibjeoaa
