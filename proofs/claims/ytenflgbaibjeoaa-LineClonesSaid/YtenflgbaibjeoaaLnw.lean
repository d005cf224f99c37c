/- The walk of known. -/
import Derived.Test.YtenflgbaibjeoaaLnv
import Derived.Deep.Cut
namespace Go.Proofs.Ytenflgbaibjeoaa
open Go Go.RowKit Go.Bul Go.Thg Go.Lin
section
variable {w w0 : World} {G : List Nat} {L : List Ent} {R : List Thing} {p : Nat}
theorem kup0 (h : HasLine G w0 L R p k0 w) : Calls Try.prog 27 #[.pointer (some ⟨p, 0, none⟩)] w fun e w' => e = .returned (.bool true) ∧ w = w' := by
  have := up_any h
  rwa [show k0.up = true by kernel_rfl] at this
theorem kses0 (h : HasLine G w0 L R p k0 w) : Calls Try.prog 19 #[.pointer (some ⟨p, 0, none⟩)] w fun e w' => e = .returned (.int .i64 1) ∧ w = w' := by
  have := ses_any h
  rwa [show k0.ses = 1 by kernel_rfl] at this
theorem ksend0 (h : HasLine G w0 L R p k0 w) : Calls Try.prog 16 #[.pointer (some ⟨p, 0, none⟩), .int .i64 0, .string ⟨#[97, 98, 99, 100, 101, 102, 103, 104, 105, 106, 107, 108, 109, 110, 111, 112, 113, 114, 115, 116, 117, 118, 119, 120, 121]⟩] w fun e w' => e = .returned (.int .i64 0) ∧ HasLine G w0 L R p k1 w' :=
  send_0 k25 h (by kernel_rfl) (by decide)
theorem kadv1 (h : HasLine G w0 L R p k1 w) : Calls Try.prog 17 #[.pointer (some ⟨p, 0, none⟩), .int .i64 1] w fun e w' => e = .returned (.int .i64 0) ∧ HasLine G w0 L R p k2 w' :=
  adv_any 1 h ok_k1 (by decide) (by rw [show k1.now = 0 by kernel_rfl]; decide)
theorem krecv2 (h : HasLine G w0 L R p k2 w) : Calls Try.prog 18 #[.pointer (some ⟨p, 0, none⟩), .int .i64 1, .int .i64 100] w fun e w' => e = .returned (.tuple #[.string ⟨#[97, 98, 99, 100, 101, 102, 103, 104, 105, 106]⟩, .int .i64 0]) ∧ HasLine G w0 L R p k3 w' := by
  refine (recv_1 100 h (by decide) (by rw [k2_arr]; decide)).mono ?_
  rintro e w' ⟨rfl, hH⟩
  refine ⟨?_, hH⟩
  rw [k2_arr]
  rfl
theorem kadv3 (h : HasLine G w0 L R p k3 w) : Calls Try.prog 17 #[.pointer (some ⟨p, 0, none⟩), .int .i64 2] w fun e w' => e = .returned (.int .i64 0) ∧ HasLine G w0 L R p k4 w' :=
  adv_any 2 h ok_k3 (by decide) (by rw [k3_now]; decide)
theorem krecv4 (h : HasLine G w0 L R p k4 w) : Calls Try.prog 18 #[.pointer (some ⟨p, 0, none⟩), .int .i64 1, .int .i64 100] w fun e w' => e = .returned (.tuple #[.string ⟨#[107, 108, 109, 110, 111, 112, 113, 114, 115, 116, 117, 118, 119, 120, 121]⟩, .int .i64 0]) ∧ HasLine G w0 L R p k5 w' := by
  refine (recv_1 100 h (by decide) (by rw [k4_arr]; decide)).mono ?_
  rintro e w' ⟨rfl, hH⟩
  refine ⟨?_, hH⟩
  rw [k4_arr]
  rfl
theorem kadv5 (h : HasLine G w0 L R p k5 w) : Calls Try.prog 17 #[.pointer (some ⟨p, 0, none⟩), .int .i64 2] w fun e w' => e = .returned (.int .i64 0) ∧ HasLine G w0 L R p k6 w' :=
  adv_any 2 h ok_k5 (by decide) (by rw [k5_now]; decide)
theorem kup6 (h : HasLine G w0 L R p k6 w) : Calls Try.prog 27 #[.pointer (some ⟨p, 0, none⟩)] w fun e w' => e = .returned (.bool false) ∧ w = w' := by
  have := up_any h
  rwa [k6_up] at this
theorem know6 (h : HasLine G w0 L R p k6 w) : Calls Try.prog 26 #[.pointer (some ⟨p, 0, none⟩)] w fun e w' => e = .returned (.int .i64 5) ∧ w = w' := by
  have := now_any h
  rwa [k6_now] at this
theorem kadv6 (h : HasLine G w0 L R p k6 w) : Calls Try.prog 17 #[.pointer (some ⟨p, 0, none⟩), .int .i64 55] w fun e w' => e = .returned (.int .i64 0) ∧ HasLine G w0 L R p k7 w' :=
  adv_any 55 h ok_k6 (by decide) (by rw [k6_now]; decide)
theorem kup7 (h : HasLine G w0 L R p k7 w) : Calls Try.prog 27 #[.pointer (some ⟨p, 0, none⟩)] w fun e w' => e = .returned (.bool true) ∧ w = w' := by
  have := up_any h
  rwa [k7_up] at this
theorem kses7 (h : HasLine G w0 L R p k7 w) : Calls Try.prog 19 #[.pointer (some ⟨p, 0, none⟩)] w fun e w' => e = .returned (.int .i64 2) ∧ w = w' := by
  have := ses_any h
  rwa [k7_ses] at this
theorem know7 (h : HasLine G w0 L R p k7 w) : Calls Try.prog 26 #[.pointer (some ⟨p, 0, none⟩)] w fun e w' => e = .returned (.int .i64 60) ∧ w = w' := by
  have := now_any h
  rwa [k7_now] at this
theorem knew (hM : Mem G w0 L R w) {A : Option Addr} {n c : Nat} (hW : Wins w A n [(0, 5)]) (hn : n ≤ 1000) : Calls Try.prog 14 #[.agg #[.int .i64 10, .int .i64 0, .int .i64 60, .slice A n c]] w fun e w' => ∃ g, e = .returned (.tuple #[.pointer (some ⟨g, 0, none⟩), .int .i64 0]) ∧ HasLine G w0 L R g k0 w' := by
  refine (new_any 10 0 60 A n c [(0, 5)] hW hn kchk).mono ?_
  rintro e w' ⟨g, rfl, hH⟩
  exact ⟨g, rfl, HasLine.frame hM hH⟩
theorem HasLine.below {S : Ln} (h : HasLine [] w0 L R p S w) : Below w0.heap.size w0 w := by
  obtain ⟨fp, h⟩ := h
  exact Mem.below h
end
attribute [local irreducible] k0 k1 k2 k3 k4 k5 k6 k7 HasLine passN
set_option maxRecDepth 20000 in
set_option maxHeartbeats 4000000 in
theorem known_any (w : World) : Calls Try.prog 15 #[] w fun e w' => e = .returned (.bool true) ∧ Below w.heap.size w w' := by
  have hM := Mem.start [] w
  go_enter Try.func15, Try.ntmps15
  go_upto_region 2 with (first | ((with_reducible refine (knew hM (wins_one hM (List.Mem.head _)) (by decide)).mono ?_); rintro e w2 ⟨g, rfl, hH⟩) | (refine lbw hM ?_; clear hM; intro gw ww hM) | ((first | with_reducible refine at_load ?_ | ((with_reducible refine at_load_g ?_ ?_); (· rfl))); first | refine lc hM ?_ | refine ll hM ?_ | refine lp hM ?_) | ((with_reducible refine at_store ?_); first | (refine ls hM ?_; clear hM; intro wx hM) | (refine lw hM ?_; clear hM; intro wx hM) | (refine lt hM ?_; clear hM; intro wx hM)) | ((with_reducible refine at_alloc ?_); refine lz hM ?_; clear hM; intro gx wx hM) | ((with_reducible refine at_box ?_); refine lb hM ?_; clear hM; intro gx wx hM))
  clear hM
  go_upto_region 4 with (first | ((with_reducible refine (kup0 hH).mono ?_); rintro e w2 ⟨rfl, rfl⟩) | ((with_reducible refine (kses0 hH).mono ?_); rintro e w2 ⟨rfl, rfl⟩))
  go_upto_region 5 with (first | ((with_reducible refine (ksend0 hH).mono ?_); clear hH; rintro e w2 ⟨rfl, hH⟩))
  go_upto_region 6 with (first | ((with_reducible refine (kadv1 hH).mono ?_); clear hH; rintro e w2 ⟨rfl, hH⟩))
  go_upto_region 7 with (first | ((with_reducible refine (krecv2 hH).mono ?_); clear hH; rintro e w2 ⟨rfl, hH⟩))
  go_upto_region 8 with (first | ((with_reducible refine (kadv3 hH).mono ?_); clear hH; rintro e w2 ⟨rfl, hH⟩))
  go_upto_region 9 with (first | ((with_reducible refine (krecv4 hH).mono ?_); clear hH; rintro e w2 ⟨rfl, hH⟩))
  go_upto_region 10 with (first | ((with_reducible refine (kadv5 hH).mono ?_); clear hH; rintro e w2 ⟨rfl, hH⟩))
  go_upto_region 12 with (first | ((with_reducible refine (kup6 hH).mono ?_); rintro e w2 ⟨rfl, rfl⟩) | ((with_reducible refine (know6 hH).mono ?_); rintro e w2 ⟨rfl, rfl⟩) | ((with_reducible refine (kadv6 hH).mono ?_); clear hH; rintro e w2 ⟨rfl, hH⟩))
  go_wp2_with (first | ((with_reducible refine (kup7 hH).mono ?_); rintro e w2 ⟨rfl, rfl⟩) | ((with_reducible refine (kses7 hH).mono ?_); rintro e w2 ⟨rfl, rfl⟩) | ((with_reducible refine (know7 hH).mono ?_); rintro e w2 ⟨rfl, rfl⟩))
  go_ret
  exact ⟨rfl, HasLine.below hH⟩
end Go.Proofs.Ytenflgbaibjeoaa
