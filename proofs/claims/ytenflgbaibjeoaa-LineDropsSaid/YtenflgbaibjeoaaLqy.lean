/- Contract of state. -/
import Derived.Test.YtenflgbaibjeoaaLqx
import Derived.Test.YtenflgbaibjeoaaLqm
namespace Go.Proofs.Ytenflgbaibjeoaa
open Go Go.RowKit Go.Bul Go.Thg Go.Lin
section
variable {G : List Nat} {w0 w : World} {L : List Ent} {R : List Thing} {p : Nat} {S : Ln}
theorem swait_0 (h : HasLine G w0 L R p S w) : Calls Try.prog 36 #[.pointer (some ⟨p, 0, none⟩), .int .i64 0] w fun e w' => e = .returned (.int .i64 (S.e0.wait.length : Nat)) ∧ w = w' := waiting_any 0 h
theorem swait_1 (h : HasLine G w0 L R p S w) : Calls Try.prog 36 #[.pointer (some ⟨p, 0, none⟩), .int .i64 1] w fun e w' => e = .returned (.int .i64 (S.e1.wait.length : Nat)) ∧ w = w' := waiting_any 1 h
theorem swait_2 (h : HasLine G w0 L R p S w) : Calls Try.prog 36 #[.pointer (some ⟨p, 0, none⟩), .int .i64 2] w fun e w' => e = .returned (.int .i64 0) ∧ w = w' := waiting_any 2 h
end
set_option maxRecDepth 20000 in
set_option maxHeartbeats 40000000 in
theorem state_any {w w0 : World} {G : List Nat} {L : List Ent} {R : List Thing} {S : Ln} {T : RL} {v : RV} {fp : List Nat} {p B : Nat} (hM : Mem G w0 L (lineT fp p S :: R) w) (hT : Tie B S T) (hB : B ≤ 100000) :
    Calls Try.prog 35 #[.pointer (some ⟨p, 0, none⟩), .agg (refCs T v)] w fun e w' => e = .returned (.bool true) ∧ Mem G w0 L (lineT fp p S :: R) w' := by
  have HN := Lib.hid (fun (L : List Ent) w' (h : Mem G w0 L (lineT fp p S :: R) w') => quiet_mem_call_same h (now_any (HasLine.of h)))
  have HU := Lib.hid (fun (L : List Ent) w' (h : Mem G w0 L (lineT fp p S :: R) w') => quiet_mem_call_same h (up_any (HasLine.of h)))
  have HS := Lib.hid (fun (L : List Ent) w' (h : Mem G w0 L (lineT fp p S :: R) w') => quiet_mem_call_same h (ses_any (HasLine.of h)))
  have HW0 := Lib.hid (fun (L : List Ent) w' (h : Mem G w0 L (lineT fp p S :: R) w') => quiet_mem_call_same h (swait_0 (HasLine.of h)))
  have HW1 := Lib.hid (fun (L : List Ent) w' (h : Mem G w0 L (lineT fp p S :: R) w') => quiet_mem_call_same h (swait_1 (HasLine.of h)))
  have HW2 := Lib.hid (fun (L : List Ent) w' (h : Mem G w0 L (lineT fp p S :: R) w') => quiet_mem_call_same h (swait_2 (HasLine.of h)))
  have hl := hT.fit.len
  have HY0 := Lib.hid (fun (L : List Ent) w' (h : Mem G w0 L (lineT fp p S :: R) w') => quiet_mem_call h (under_0 (HasLine.of h) (by omega) hT.fit.ok.w0))
  have HY1 := Lib.hid (fun (L : List Ent) w' (h : Mem G w0 L (lineT fp p S :: R) w') => quiet_mem_call h (under_1 (HasLine.of h) (by omega) hT.fit.ok.w1))
  have HYN := Lib.hid (fun (L : List Ent) w' (h : Mem G w0 L (lineT fp p S :: R) w') => quiet_mem_call_same h (under_no (-1) (HasLine.of h) (by decide) (by decide)))
  have e1 : T.now = S.now := hT.rel.now
  have e2 : T.up = S.up := hT.rel.up
  have e3 : T.ses = S.ses := hT.rel.ses
  have e4 : (bstr T.w0).size = S.e0.wait.length := by rw [bstr_size, hT.rel.w0]
  have e5 : (bstr T.w1).size = S.e1.wait.length := by rw [bstr_size, hT.rel.w1]
  have e6 : T.y0.length = wb S.e0.way := by rw [hT.rel.y0, spread_length]
  have e7 : T.y1.length = wb S.e1.way := by rw [hT.rel.y1, spread_length]
  obtain ⟨r, d, q, ws, now, up, ses, u0, y0, a0, u1, y1, a1⟩ := T
  obtain ⟨vA, vc, vy0, vc0, vy1, vc1⟩ := v
  simp only at e1 e2 e3 e4 e5 e6 e7
  show Calls _ _ #[_, .agg #[.int .i64 r, .int .i64 d, .int .i64 q, .slice vA ws.length vc, .int .i64 now, .bool up, .int .i64 ses, .string (bstr u0), .slice vy0 y0.length vc0, .string (bstr a0), .string (bstr u1), .slice vy1 y1.length vc1, .string (bstr a1)]] _ _
  generalize S.now = nw at HN e1
  generalize S.up = uu at HU e2
  generalize S.ses = ss at HS e3
  generalize S.e0.wait.length = l0 at HW0 e4
  generalize S.e1.wait.length = l1 at HW1 e5
  generalize wb S.e0.way = l2 at HY0 e6
  generalize wb S.e1.way = l3 at HY1 e7
  subst e1 e2 e3
  rw [e6, e7]
  clear hT hB hl e6 e7
  go_enter Try.func35, Try.ntmps35
  go_wp2_with (first | ((first | with_reducible refine at_load ?_ | ((with_reducible refine at_load_g ?_ ?_); (· rfl))); first | refine lc hM ?_ | refine ll hM ?_ | refine lp hM ?_) | ((with_reducible refine at_store ?_); first | (refine ls hM ?_; clear hM; intro wx hM) | (refine lw hM ?_; clear hM; intro wx hM) | (refine lt hM ?_; clear hM; intro wx hM)) | ((with_reducible refine at_alloc ?_); refine lz hM ?_; clear hM; intro gx wx hM) | ((with_reducible refine at_box ?_); refine lb hM ?_; clear hM; intro gx wx hM))
  refine Go.Bul.wp_region_class (Mem _ w0 _ _) (by kernel_rfl) (by kernel_rfl) hM.drew ?_
  repeat ((with_reducible refine wpQuiet_step (fun K hK => ?_)); (first | ((first | ((with_reducible refine quiet_some ?_ ?_); (· rfl)) | ((with_reducible refine quiet_wanted ?_ ?_); (· rfl))); apply Exists.intro; refine ⟨fun w' hM' => ?_, ?_⟩; (· first | (go_simp; rfl) | exact qc hM' | (go_simp; with_reducible refine at_calls ?_; first | exact HN.out _ _ hM' | exact HU.out _ _ hM' | exact HS.out _ _ hM' | exact HW2.out _ _ hM' | exact HYN.out _ _ hM') | exact ql hM' | exact qp hM')) | ((with_reducible refine quiet_unwanted ?_ ?_); (· rfl))); go_simp; (with_reducible refine hK _ ?_); clear hK K)
  refine wpQuiet_nil ?_
  intro wx hM
  go_wp2_with (first | ((first | with_reducible refine at_load ?_ | ((with_reducible refine at_load_g ?_ ?_); (· rfl))); first | refine lc hM ?_ | refine ll hM ?_ | refine lp hM ?_) | ((with_reducible refine at_store ?_); first | (refine ls hM ?_; clear hM; intro wx hM) | (refine lw hM ?_; clear hM; intro wx hM) | (refine lt hM ?_; clear hM; intro wx hM)) | ((with_reducible refine at_alloc ?_); refine lz hM ?_; clear hM; intro gx wx hM) | ((with_reducible refine at_box ?_); refine lb hM ?_; clear hM; intro gx wx hM))
  refine wp_loop_rounds 3 ?_
  rw [rounds_succ]
  go_wp2_with (first | ((first | with_reducible refine at_load ?_ | ((with_reducible refine at_load_g ?_ ?_); (· rfl))); first | refine lc hM ?_ | refine ll hM ?_ | refine lp hM ?_) | ((with_reducible refine at_store ?_); first | (refine ls hM ?_; clear hM; intro wx hM) | (refine lw hM ?_; clear hM; intro wx hM) | (refine lt hM ?_; clear hM; intro wx hM)) | ((with_reducible refine at_alloc ?_); refine lz hM ?_; clear hM; intro gx wx hM) | ((with_reducible refine at_box ?_); refine lb hM ?_; clear hM; intro gx wx hM))
  refine Go.Bul.wp_region_class (Mem _ w0 _ _) (by kernel_rfl) (by kernel_rfl) hM.drew ?_
  repeat ((with_reducible refine wpQuiet_step (fun K hK => ?_)); (first | ((first | ((with_reducible refine quiet_some ?_ ?_); (· rfl)) | ((with_reducible refine quiet_wanted ?_ ?_); (· rfl))); apply Exists.intro; refine ⟨fun w' hM' => ?_, ?_⟩; (· first | (go_simp; rfl) | exact qc hM' | (go_simp; with_reducible refine at_calls ?_; first | exact HW0.out _ _ hM' | exact HY0.out _ _ hM') | exact ql hM' | exact qp hM')) | ((with_reducible refine quiet_unwanted ?_ ?_); (· rfl))); go_simp; (with_reducible refine hK _ ?_); clear hK K)
  refine wpQuiet_nil ?_
  intro wx hM
  go_wp2_with (first | ((first | with_reducible refine at_load ?_ | ((with_reducible refine at_load_g ?_ ?_); (· rfl))); first | refine lc hM ?_ | refine ll hM ?_ | refine lp hM ?_) | ((with_reducible refine at_store ?_); first | (refine ls hM ?_; clear hM; intro wx hM) | (refine lw hM ?_; clear hM; intro wx hM) | (refine lt hM ?_; clear hM; intro wx hM)) | ((with_reducible refine at_alloc ?_); refine lz hM ?_; clear hM; intro gx wx hM) | ((with_reducible refine at_box ?_); refine lb hM ?_; clear hM; intro gx wx hM))
  rw [rounds_succ]
  go_wp2_with (first | ((first | with_reducible refine at_load ?_ | ((with_reducible refine at_load_g ?_ ?_); (· rfl))); first | refine lc hM ?_ | refine ll hM ?_ | refine lp hM ?_) | ((with_reducible refine at_store ?_); first | (refine ls hM ?_; clear hM; intro wx hM) | (refine lw hM ?_; clear hM; intro wx hM) | (refine lt hM ?_; clear hM; intro wx hM)) | ((with_reducible refine at_alloc ?_); refine lz hM ?_; clear hM; intro gx wx hM) | ((with_reducible refine at_box ?_); refine lb hM ?_; clear hM; intro gx wx hM))
  refine Go.Bul.wp_region_class (Mem _ w0 _ _) (by kernel_rfl) (by kernel_rfl) hM.drew ?_
  repeat ((with_reducible refine wpQuiet_step (fun K hK => ?_)); (first | ((first | ((with_reducible refine quiet_some ?_ ?_); (· rfl)) | ((with_reducible refine quiet_wanted ?_ ?_); (· rfl))); apply Exists.intro; refine ⟨fun w' hM' => ?_, ?_⟩; (· first | (go_simp; rfl) | exact qc hM' | (go_simp; with_reducible refine at_calls ?_; first | exact HW1.out _ _ hM' | exact HY1.out _ _ hM') | exact ql hM' | exact qp hM')) | ((with_reducible refine quiet_unwanted ?_ ?_); (· rfl))); go_simp; (with_reducible refine hK _ ?_); clear hK K)
  refine wpQuiet_nil ?_
  intro wx hM
  go_wp2_with (first | ((first | with_reducible refine at_load ?_ | ((with_reducible refine at_load_g ?_ ?_); (· rfl))); first | refine lc hM ?_ | refine ll hM ?_ | refine lp hM ?_) | ((with_reducible refine at_store ?_); first | (refine ls hM ?_; clear hM; intro wx hM) | (refine lw hM ?_; clear hM; intro wx hM) | (refine lt hM ?_; clear hM; intro wx hM)) | ((with_reducible refine at_alloc ?_); refine lz hM ?_; clear hM; intro gx wx hM) | ((with_reducible refine at_box ?_); refine lb hM ?_; clear hM; intro gx wx hM))
  rw [rounds_succ]
  go_wp2_with (first | ((first | with_reducible refine at_load ?_ | ((with_reducible refine at_load_g ?_ ?_); (· rfl))); first | refine lc hM ?_ | refine ll hM ?_ | refine lp hM ?_) | ((with_reducible refine at_store ?_); first | (refine ls hM ?_; clear hM; intro wx hM) | (refine lw hM ?_; clear hM; intro wx hM) | (refine lt hM ?_; clear hM; intro wx hM)) | ((with_reducible refine at_alloc ?_); refine lz hM ?_; clear hM; intro gx wx hM) | ((with_reducible refine at_box ?_); refine lb hM ?_; clear hM; intro gx wx hM))
  go_ret
  exact ⟨rfl, hM.subL (List.sublist_cons_self _ _)⟩
end Go.Proofs.Ytenflgbaibjeoaa
