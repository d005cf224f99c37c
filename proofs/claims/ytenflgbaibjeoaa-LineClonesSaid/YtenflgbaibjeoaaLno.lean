/- Contracts of Advance, Drop. -/
import Derived.Test.YtenflgbaibjeoaaLnl
namespace Go.Lin
open Go
theorem ok_up {S : Ln} (h : Ok S) (hs : S.ses ≤ S.now) : Ok (upS S) := by
  have := h.n0
  have := h.n1
  have := h.ses1
  exact ⟨h.r1, h.r2, h.d1, h.d2, h.p1, h.p2, h.ws, h.now1, h.now2, by simp only [upS]; omega, by simp only [upS]; omega, by simp [upS]; omega, by simp [upS]; omega, h.w0, h.w1⟩
theorem ok_pass {S : Ln} (h : Ok S) (hn : S.now < 10000000) : Ok (passS S) := by
  have h1 := ok_arrive (ok_send h) (by rw [show (sendAll S).now = S.now by unfold sendAll; split <;> rfl]; exact hn)
  have e1 : (arrive (sendAll S)).ses = S.ses := by unfold sendAll; split <;> rfl
  have e2 : (arrive (sendAll S)).now = S.now + 1 := by unfold sendAll; split <;> rfl
  have := h.ses2
  unfold passS turnS
  repeat' split
  · exact h1
  · exact ok_down h1
  · exact ok_up h1 (by rw [e1, e2]; omega)
  · exact h1
/-- Some minutes pass. -/
def passN : Nat → Ln → Ln
  | 0, S => S
  | k + 1, S => passS (passN k S)
theorem passN_now (k : Nat) (S : Ln) : (passN k S).now = S.now + k := by
  induction k with
  | zero => simp [passN]
  | succ k ih => rw [passN, passS_now, ih]; omega
theorem ok_passN {S : Ln} (h : Ok S) : ∀ k : Nat, S.now + k ≤ 10000000 → Ok (passN k S)
  | 0, _ => h
  | k + 1, hk => ok_pass (ok_passN h k (by omega)) (by rw [passN_now]; omega)
end Go.Lin
namespace Go.Proofs.Ytenflgbaibjeoaa
open Go Go.RowKit Go.Bul Go.Thg Go.Lin
section
variable {G : List Nat} {w0 w : World} {L : List Ent} {R : List Thing} {p : Nat} {S : Ln}
set_option maxRecDepth 20000 in
theorem adv_any (k : Int) (h : HasLine G w0 L R p S w) (hk : Ok S) (h0 : 0 ≤ k) (h1 : k ≤ 10000000 - S.now) :
    Calls Try.prog 17 #[.pointer (some ⟨p, 0, none⟩), .int .i64 k] w fun e w' => e = .returned (.int .i64 0) ∧ HasLine G w0 L R p (passN k.toNat S) w' := by
  have HH := Lib.hid h
  obtain ⟨x, hM⟩ := h.open
  have hn1 := hk.now1
  have HK := Lib.hid hk
  have c1 : decide (k < 0) = false := decide_eq_false (by omega)
  have w1 : IntKind.i64.wrap (10000000 - S.now) = 10000000 - S.now := IntWalk.i64_in _ ⟨by omega, by omega⟩
  have c2 : decide (10000000 - S.now < k) = false := decide_eq_false (by omega)
  clear h hk
  obtain ⟨n, rfl⟩ : ∃ n : Nat, k = (n : Int) := ⟨k.toNat, by omega⟩
  have H1 := Lib.hid h1
  clear h0 h1 hn1
  go_enter Try.func17, Try.ntmps17
  go_wp2_with (first | ((first | with_reducible refine at_load ?_ | ((with_reducible refine at_load_g ?_ ?_); (· rfl))); first | refine lc hM ?_ | refine ll hM ?_ | refine lp hM ?_) | ((with_reducible refine at_store ?_); first | (refine ls hM ?_; clear hM; intro wx hM) | (refine lw hM ?_; clear hM; intro wx hM) | (refine lt hM ?_; clear hM; intro wx hM)) | ((with_reducible refine at_alloc ?_); refine lz hM ?_; clear hM; intro gx wx hM) | ((with_reducible refine at_box ?_); refine lb hM ?_; clear hM; intro gx wx hM))
  go_loopg [19] n (fun g v wr => ∃ j : Nat, v = .int .i64 (j : Int) ∧ j + g = n ∧ HasLine G w0 L R p (passN j S) wr)
  case atStart => exact ⟨0, rfl, by omega, HH.out⟩
  case round =>
  clear hM
  obtain ⟨j, rfl, hj, hH⟩ := hrel
  by_cases hg : gk = 0
  · have hjn : j = n := by omega
    have c3 : decide ((j : Int) < (n : Int)) = false := decide_eq_false (by omega)
    have c4 : decide (j < n) = false := decide_eq_false (by omega)
    have HJ := Lib.hid hjn
    clear hj hg hjn
    go_wp2_with fail
    go_ret
    rw [Int.toNat_natCast, ← HJ.out]
    exact ⟨rfl, hH⟩
  · have c3 : decide ((j : Int) < (n : Int)) = true := decide_eq_true (by omega)
    have c4 : decide (j < n) = true := decide_eq_true (by omega)
    have hjn : j < n := by omega
    have h1 := H1.out
    have w2 : IntKind.i64.wrap ((j : Int) + 1) = ((j + 1 : Nat) : Int) := by have := HK.out.now1; rw [IntWalk.i64_in _ ⟨by omega, by omega⟩]; omega
    have hP := Lib.hid (pass_any hH (ok_passN HK.out j (by omega)) (by rw [passN_now]; omega))
    have HJ := Lib.hid hj
    clear hj hH h1 hjn
    go_wp2_with (first | ((with_reducible refine hP.out.mono ?_); rintro e w1 ⟨rfl, hH⟩))
    go_roundg (gk - 1)
    case measure => omega
    case rel => exact ⟨j + 1, rfl, by have := HJ.out; omega, hH⟩
set_option maxRecDepth 20000 in
theorem adv_no (k : Int) (h : HasLine G w0 L R p S w) (hk : Ok S) (hb : k < 0 ∨ 10000000 - S.now < k) :
    Calls Try.prog 17 #[.pointer (some ⟨p, 0, none⟩), .int .i64 k] w fun e w' => e = .returned (.int .i64 2) ∧ w = w' := by
  obtain ⟨x, hM⟩ := h.open
  have hn1 := hk.now1
  have hn2 := hk.now2
  have w1 : IntKind.i64.wrap (10000000 - S.now) = 10000000 - S.now := IntWalk.i64_in _ ⟨by omega, by omega⟩
  by_cases hk0 : k < 0
  · have c1 : decide (k < 0) = true := decide_eq_true hk0
    clear h hk hb hk0 hn1 hn2
    go_enter Try.func17, Try.ntmps17
    go_wp2_with (first | ((first | with_reducible refine at_load ?_ | ((with_reducible refine at_load_g ?_ ?_); (· rfl))); first | refine lc hM ?_ | refine ll hM ?_ | refine lp hM ?_) | ((with_reducible refine at_store ?_); first | (refine ls hM ?_; clear hM; intro wx hM) | (refine lw hM ?_; clear hM; intro wx hM) | (refine lt hM ?_; clear hM; intro wx hM)) | ((with_reducible refine at_alloc ?_); refine lz hM ?_; clear hM; intro gx wx hM) | ((with_reducible refine at_box ?_); refine lb hM ?_; clear hM; intro gx wx hM))
    go_ret
    exact ⟨rfl, rfl⟩
  · have c1 : decide (k < 0) = false := decide_eq_false hk0
    have c2 : decide (10000000 - S.now < k) = true := decide_eq_true (by omega)
    clear h hk hb hk0 hn1 hn2
    go_enter Try.func17, Try.ntmps17
    go_wp2_with (first | ((first | with_reducible refine at_load ?_ | ((with_reducible refine at_load_g ?_ ?_); (· rfl))); first | refine lc hM ?_ | refine ll hM ?_ | refine lp hM ?_) | ((with_reducible refine at_store ?_); first | (refine ls hM ?_; clear hM; intro wx hM) | (refine lw hM ?_; clear hM; intro wx hM) | (refine lt hM ?_; clear hM; intro wx hM)) | ((with_reducible refine at_alloc ?_); refine lz hM ?_; clear hM; intro gx wx hM) | ((with_reducible refine at_box ?_); refine lb hM ?_; clear hM; intro gx wx hM))
    go_ret
    exact ⟨rfl, rfl⟩
/-- What Drop says. -/
def dropE (S : Ln) : Int := if S.up then 0 else 26
set_option maxRecDepth 20000 in
theorem drop_any (h : HasLine G w0 L R p S w) : Calls Try.prog 29 #[.pointer (some ⟨p, 0, none⟩)] w fun e w' => e = .returned (.int .i64 (dropE S)) ∧ HasLine G w0 L R p (if S.up then downS S else S) w' := by
  have HH := Lib.hid h
  have HD := Lib.hid (down_any h)
  obtain ⟨x, hM⟩ := h.open
  clear h
  obtain ⟨r, d, q, ws, now, up, ses, E0, E1⟩ := S
  cases up with
  | true =>
    go_enter Try.func29, Try.ntmps29
    go_wp2_with (first | ((with_reducible refine HD.out.mono ?_); rintro e w1 ⟨rfl, hH⟩) | ((first | with_reducible refine at_load ?_ | ((with_reducible refine at_load_g ?_ ?_); (· rfl))); first | refine lc hM ?_ | refine ll hM ?_ | refine lp hM ?_) | ((with_reducible refine at_store ?_); first | (refine ls hM ?_; clear hM; intro wx hM) | (refine lw hM ?_; clear hM; intro wx hM) | (refine lt hM ?_; clear hM; intro wx hM)) | ((with_reducible refine at_alloc ?_); refine lz hM ?_; clear hM; intro gx wx hM) | ((with_reducible refine at_box ?_); refine lb hM ?_; clear hM; intro gx wx hM))
    go_ret
    exact ⟨rfl, hH⟩
  | false =>
    go_enter Try.func29, Try.ntmps29
    go_wp2_with (first | ((first | with_reducible refine at_load ?_ | ((with_reducible refine at_load_g ?_ ?_); (· rfl))); first | refine lc hM ?_ | refine ll hM ?_ | refine lp hM ?_) | ((with_reducible refine at_store ?_); first | (refine ls hM ?_; clear hM; intro wx hM) | (refine lw hM ?_; clear hM; intro wx hM) | (refine lt hM ?_; clear hM; intro wx hM)) | ((with_reducible refine at_alloc ?_); refine lz hM ?_; clear hM; intro gx wx hM) | ((with_reducible refine at_box ?_); refine lb hM ?_; clear hM; intro gx wx hM))
    go_ret
    exact ⟨rfl, HH.out⟩
end
end Go.Proofs.Ytenflgbaibjeoaa
