/- Contracts of the reference's functions on its line: New, Send, Receive, down, Drop. -/
import Derived.Test.YtenflgbaibjeoaaLqp
import Derived.Test.YtenflgbaibjeoaaLcf
namespace Go.Proofs.Ytenflgbaibjeoaa
open Go Go.RowKit Go.Bul Go.Thg Go.Lin
/-- Bytes under way, as cells. -/
def bCells (y : BW) : List Value := y.flatMap fun x => [.int .u8 x.1, .int .i64 x.2]
/-- Where the slices of a line of the reference lie. -/
structure RV where
  A : Option Addr
  c : Nat
  y0 : Option Addr
  c0 : Nat
  y1 : Option Addr
  c1 : Nat
abbrev refCs (T : RL) (v : RV) : Array Value := #[.int .i64 T.r, .int .i64 T.d, .int .i64 T.p, .slice v.A T.ws.length v.c, .int .i64 T.now, .bool T.up, .int .i64 T.ses,
  .string (bstr T.w0), .slice v.y0 T.y0.length v.c0, .string (bstr T.a0), .string (bstr T.w1), .slice v.y1 T.y1.length v.c1, .string (bstr T.a1)]
/-- What the slices of a line of the reference read as. -/
structure RIn (w : World) (T : RL) (v : RV) : Prop where
  ws : Wins w v.A T.ws.length T.ws
  y0 : Reads w 2 v.y0 T.y0.length (bCells T.y0)
  y1 : Reads w 2 v.y1 T.y1.length (bCells T.y1)
theorem RIn.keep {w w' : World} {T : RL} {v : RV} (h : RIn w T v) (hb : Below w.heap.size w w') : RIn w' T v := ⟨h.ws.keep hb, h.y0.keep hb, h.y1.keep hb⟩
end Go.Proofs.Ytenflgbaibjeoaa
namespace Go.Lin
/-- The reference's new line; what it says to a send, a receipt, a drop. -/
def newR (r d p : Int) (ws : List Win) : RL := if connected r d p ws 0 then ⟨r, d, p, ws, 0, true, 1, [], [], [], [], [], []⟩ else ⟨r, d, p, ws, 0, false, 0, [], [], [], [], [], []⟩
def sendER (T : RL) (s : Int) (n : Nat) : Int := if s ≠ 0 ∧ s ≠ 1 then 2 else if T.up = false then 26 else if 1048576 < (if s = 0 then T.w0.length else T.w1.length) + n then 9 else 0
def sendR (T : RL) (s : Int) (t : List Nat) : RL := if sendER T s t.length = 0 then (if s = 0 then { T with w0 := T.w0 ++ t } else { T with w1 := T.w1 ++ t }) else T
theorem rel_sendE {S : Ln} {T : RL} (h : Rel S T) (s : Int) (n : Nat) : sendER T s n = sendE S s n := by unfold sendER sendE; rw [h.up, h.w0, h.w1]
theorem rel_sendS {S : Ln} {T : RL} (h : Rel S T) (s : Int) (t : List Nat) : Rel (sendS S s t) (sendR T s t) := by
  unfold sendS sendR
  rw [rel_sendE h]
  repeat' split
  · exact ⟨h.r, h.d, h.p, h.ws, h.now, h.up, h.ses, by simp [h.w0], h.y0, h.a0, h.w1, h.y1, h.a1⟩
  · exact ⟨h.r, h.d, h.p, h.ws, h.now, h.up, h.ses, h.w0, h.y0, h.a0, by simp [h.w1], h.y1, h.a1⟩
  · exact h
theorem rel_new {r d p : Int} {ws : List Win} (hc : chk r d p ws = 0) : Rel (newS r d p ws) (newR r d p ws) := by
  unfold newS newR
  rw [connected_eq hc (Int.le_refl _)]
  split
  all_goals exact ⟨rfl, rfl, rfl, rfl, rfl, rfl, rfl, rfl, rfl, rfl, rfl, rfl, rfl⟩
end Go.Lin
namespace Go.Proofs.Ytenflgbaibjeoaa
open Go Go.RowKit Go.Bul Go.Thg Go.Lin
theorem RIn.of_nil {w : World} {r d p now ses : Int} {up : Bool} {ws : List Win} {a0 a1 w0 w1 : List Nat} {A B C : Option Addr} {c c0 c1 : Nat} (h : Wins w A ws.length ws) : RIn w ⟨r, d, p, ws, now, up, ses, w0, [], a0, w1, [], a1⟩ ⟨A, c, B, c0, C, c1⟩ := ⟨h, Reads.nil _ _ _, Reads.nil _ _ _⟩
set_option maxRecDepth 20000 in
set_option maxHeartbeats 4000000 in
theorem rnew_any (r d p : Int) (A : Option Addr) (c : Nat) (ws : List Win) (w : World) (hn : ws.length ≤ 1000) (hW : Wins w A ws.length ws) :
    Calls Try.prog 33 #[cfgV r d p A ws.length c] w fun e w' => e = .returned (.agg (refCs (newR r d p ws) ⟨A, c, none, 0, none, 0⟩)) ∧ Below w.heap.size w w' := by
  have hM := Mem.start [] w
  have HV := Lib.hid (fun w hW => rconn_any r d p 0 A ws.length c ws w (by decide) hn hW)
  have HW := Lib.hid hW
  unfold newR
  cases hb : connected r d p ws 0 with
  | true =>
    rw [hb] at HV
    clear hW hb hn
    go_enter Try.func33, Try.ntmps33
    go_wp2_with (first | ((with_reducible refine (HV.out _ (HW.out.keep hM.below)).mono ?_); rintro e w1 ⟨rfl, hb⟩; replace hM := hM.step hb; clear hb) | ((with_reducible refine at_store ?_); refine ls hM ?_ (hy := by (go_simp; rfl)); clear hM; intro wx hM) | ((first | with_reducible refine at_load ?_ | ((with_reducible refine at_load_g ?_ ?_); (· rfl))); first | refine lc hM ?_ | refine ll hM ?_ | refine lp hM ?_) | ((with_reducible refine at_store ?_); first | (refine ls hM ?_; clear hM; intro wx hM) | (refine lw hM ?_; clear hM; intro wx hM) | (refine lt hM ?_; clear hM; intro wx hM)) | ((with_reducible refine at_alloc ?_); refine lz hM ?_; clear hM; intro gx wx hM) | ((with_reducible refine at_box ?_); refine lb hM ?_; clear hM; intro gx wx hM))
    exact bodyPost_ret (results_mem_cell hM rfl (by rfl) (by repeat (first | exact List.Mem.head _ | apply List.Mem.tail)) (by first | exact row_cfg | exact row_win | exact row_line | exact row_end | exact row_ends | exact row_pkt | exact row_C | exact row_W | exact row_L | exact row_End | exact row_Ends | exact row_B | exact row_op | exact row_str2 | exact row_b3)) rfl ⟨rfl, hM.below⟩
  | false =>
    rw [hb] at HV
    clear hW hb hn
    go_enter Try.func33, Try.ntmps33
    go_wp2_with (first | ((with_reducible refine (HV.out _ (HW.out.keep hM.below)).mono ?_); rintro e w1 ⟨rfl, hb⟩; replace hM := hM.step hb; clear hb) | ((with_reducible refine at_store ?_); refine ls hM ?_ (hy := by (go_simp; rfl)); clear hM; intro wx hM) | ((first | with_reducible refine at_load ?_ | ((with_reducible refine at_load_g ?_ ?_); (· rfl))); first | refine lc hM ?_ | refine ll hM ?_ | refine lp hM ?_) | ((with_reducible refine at_store ?_); first | (refine ls hM ?_; clear hM; intro wx hM) | (refine lw hM ?_; clear hM; intro wx hM) | (refine lt hM ?_; clear hM; intro wx hM)) | ((with_reducible refine at_alloc ?_); refine lz hM ?_; clear hM; intro gx wx hM) | ((with_reducible refine at_box ?_); refine lb hM ?_; clear hM; intro gx wx hM))
    exact bodyPost_ret (results_mem_cell hM rfl (by rfl) (by repeat (first | exact List.Mem.head _ | apply List.Mem.tail)) (by first | exact row_cfg | exact row_win | exact row_line | exact row_end | exact row_ends | exact row_pkt | exact row_C | exact row_W | exact row_L | exact row_End | exact row_Ends | exact row_B | exact row_op | exact row_str2 | exact row_b3)) rfl ⟨rfl, hM.below⟩
set_option maxRecDepth 20000 in
set_option maxHeartbeats 4000000 in
theorem rdown_any (T : RL) (v : RV) (w : World) :
    Calls Try.prog 52 #[.agg (refCs T v)] w fun e w' => e = .returned (.agg (refCs (downR T) ⟨v.A, v.c, none, 0, none, 0⟩)) ∧ Below w.heap.size w w' := by
  have hM := Mem.start [] w
  obtain ⟨r, d, p, ws, now, up, ses, w0, y0, a0, w1, y1, a1⟩ := T
  obtain ⟨A, c, Y0, c0, Y1, c1⟩ := v
  go_enter Try.func52, Try.ntmps52
  go_wp2_with (first | ((with_reducible refine at_store ?_); refine ls hM ?_ (hy := by (go_simp; rfl)); clear hM; intro wx hM) | ((first | with_reducible refine at_load ?_ | ((with_reducible refine at_load_g ?_ ?_); (· rfl))); first | refine lc hM ?_ | refine ll hM ?_ | refine lp hM ?_) | ((with_reducible refine at_store ?_); first | (refine ls hM ?_; clear hM; intro wx hM) | (refine lw hM ?_; clear hM; intro wx hM) | (refine lt hM ?_; clear hM; intro wx hM)) | ((with_reducible refine at_alloc ?_); refine lz hM ?_; clear hM; intro gx wx hM) | ((with_reducible refine at_box ?_); refine lb hM ?_; clear hM; intro gx wx hM))
  refine wp_loop_rounds 3 ?_
  rw [rounds_succ]
  go_wp2_with (first | ((with_reducible refine at_store ?_); refine ls hM ?_ (hy := by (go_simp; rfl)); clear hM; intro wx hM) | ((first | with_reducible refine at_load ?_ | ((with_reducible refine at_load_g ?_ ?_); (· rfl))); first | refine lc hM ?_ | refine ll hM ?_ | refine lp hM ?_) | ((with_reducible refine at_store ?_); first | (refine ls hM ?_; clear hM; intro wx hM) | (refine lw hM ?_; clear hM; intro wx hM) | (refine lt hM ?_; clear hM; intro wx hM)) | ((with_reducible refine at_alloc ?_); refine lz hM ?_; clear hM; intro gx wx hM) | ((with_reducible refine at_box ?_); refine lb hM ?_; clear hM; intro gx wx hM))
  rw [rounds_succ]
  go_wp2_with (first | ((with_reducible refine at_store ?_); refine ls hM ?_ (hy := by (go_simp; rfl)); clear hM; intro wx hM) | ((first | with_reducible refine at_load ?_ | ((with_reducible refine at_load_g ?_ ?_); (· rfl))); first | refine lc hM ?_ | refine ll hM ?_ | refine lp hM ?_) | ((with_reducible refine at_store ?_); first | (refine ls hM ?_; clear hM; intro wx hM) | (refine lw hM ?_; clear hM; intro wx hM) | (refine lt hM ?_; clear hM; intro wx hM)) | ((with_reducible refine at_alloc ?_); refine lz hM ?_; clear hM; intro gx wx hM) | ((with_reducible refine at_box ?_); refine lb hM ?_; clear hM; intro gx wx hM))
  rw [rounds_succ]
  go_wp2_with (first | ((with_reducible refine at_store ?_); refine ls hM ?_ (hy := by (go_simp; rfl)); clear hM; intro wx hM) | ((first | with_reducible refine at_load ?_ | ((with_reducible refine at_load_g ?_ ?_); (· rfl))); first | refine lc hM ?_ | refine ll hM ?_ | refine lp hM ?_) | ((with_reducible refine at_store ?_); first | (refine ls hM ?_; clear hM; intro wx hM) | (refine lw hM ?_; clear hM; intro wx hM) | (refine lt hM ?_; clear hM; intro wx hM)) | ((with_reducible refine at_alloc ?_); refine lz hM ?_; clear hM; intro gx wx hM) | ((with_reducible refine at_box ?_); refine lb hM ?_; clear hM; intro gx wx hM))
  exact bodyPost_ret (results_mem_cell hM rfl (by rfl) (by repeat (first | exact List.Mem.head _ | apply List.Mem.tail)) (by first | exact row_cfg | exact row_win | exact row_line | exact row_end | exact row_ends | exact row_pkt | exact row_C | exact row_W | exact row_L | exact row_End | exact row_Ends | exact row_B | exact row_op | exact row_str2 | exact row_b3)) rfl ⟨rfl, hM.below⟩
set_option maxRecDepth 20000 in
set_option maxHeartbeats 4000000 in
theorem rdrop_any (T : RL) (v : RV) (w : World) :
    Calls Try.prog 38 #[.agg (refCs T v)] w fun e w' => e = .returned (.tuple #[.agg (refCs (if T.up then downR T else T) (if T.up then ⟨v.A, v.c, none, 0, none, 0⟩ else v)), .int .i64 (if T.up then 0 else 26)]) ∧ Below w.heap.size w w' := by
  have hM := Mem.start [] w
  have HD := Lib.hid (fun w => rdown_any T v w)
  obtain ⟨r, d, p, ws, now, up, ses, w0, y0, a0, w1, y1, a1⟩ := T
  obtain ⟨A, c, Y0, c0, Y1, c1⟩ := v
  cases up with
  | true =>
    go_enter Try.func38, Try.ntmps38
    go_wp2_with (first | ((with_reducible refine (HD.out _).mono ?_); rintro e w1 ⟨rfl, hb⟩; replace hM := hM.step hb; clear hb) | ((with_reducible refine at_store ?_); refine ls hM ?_ (hy := by (go_simp; rfl)); clear hM; intro wx hM) | ((first | with_reducible refine at_load ?_ | ((with_reducible refine at_load_g ?_ ?_); (· rfl))); first | refine lc hM ?_ | refine ll hM ?_ | refine lp hM ?_) | ((with_reducible refine at_store ?_); first | (refine ls hM ?_; clear hM; intro wx hM) | (refine lw hM ?_; clear hM; intro wx hM) | (refine lt hM ?_; clear hM; intro wx hM)) | ((with_reducible refine at_alloc ?_); refine lz hM ?_; clear hM; intro gx wx hM) | ((with_reducible refine at_box ?_); refine lb hM ?_; clear hM; intro gx wx hM))
    exact bodyPost_ret (results_mem_cell_tmp hM rfl (by rfl) (by repeat (first | exact List.Mem.head _ | apply List.Mem.tail)) (by first | exact row_cfg | exact row_win | exact row_line | exact row_end | exact row_ends | exact row_pkt | exact row_C | exact row_W | exact row_L | exact row_End | exact row_Ends | exact row_B | exact row_op | exact row_str2 | exact row_b3) (by rfl)) rfl ⟨rfl, hM.below⟩
  | false =>
    go_enter Try.func38, Try.ntmps38
    go_wp2_with (first | ((with_reducible refine (HD.out _).mono ?_); rintro e w1 ⟨rfl, hb⟩; replace hM := hM.step hb; clear hb) | ((with_reducible refine at_store ?_); refine ls hM ?_ (hy := by (go_simp; rfl)); clear hM; intro wx hM) | ((first | with_reducible refine at_load ?_ | ((with_reducible refine at_load_g ?_ ?_); (· rfl))); first | refine lc hM ?_ | refine ll hM ?_ | refine lp hM ?_) | ((with_reducible refine at_store ?_); first | (refine ls hM ?_; clear hM; intro wx hM) | (refine lw hM ?_; clear hM; intro wx hM) | (refine lt hM ?_; clear hM; intro wx hM)) | ((with_reducible refine at_alloc ?_); refine lz hM ?_; clear hM; intro gx wx hM) | ((with_reducible refine at_box ?_); refine lb hM ?_; clear hM; intro gx wx hM))
    exact bodyPost_ret (results_mem_cell_tmp hM rfl (by rfl) (by repeat (first | exact List.Mem.head _ | apply List.Mem.tail)) (by first | exact row_cfg | exact row_win | exact row_line | exact row_end | exact row_ends | exact row_pkt | exact row_C | exact row_W | exact row_L | exact row_End | exact row_Ends | exact row_B | exact row_op | exact row_str2 | exact row_b3) (by rfl)) rfl ⟨rfl, hM.below⟩
set_option maxRecDepth 20000 in
set_option maxHeartbeats 4000000 in
theorem rsend_any (T : RL) (v : RV) (s : Int) (t : ByteArray) (w : World) (h0 : T.w0.length ≤ 1000000000) (h1 : T.w1.length ≤ 1000000000) (ht : t.size ≤ 1000000000) :
    Calls Try.prog 49 #[.agg (refCs T v), .int .i64 s, .string t] w fun e w' => e = .returned (.tuple #[.agg (refCs (sendR T s (nums t)) v), .int .i64 (sendER T s t.size)]) ∧ Below w.heap.size w w' := by
  have hM := Mem.start [] w
  have hnl := nums_length t
  have e1 : ∀ l : List Nat, bstr l ++ t = bstr (l ++ nums t) := fun l => by rw [← bstr_app, bstr_of_nums]
  obtain ⟨r, d, p, ws, now, up, ses, w0, y0, a0, w1, y1, a1⟩ := T
  obtain ⟨A, c, Y0, c0, Y1, c1⟩ := v
  simp only at h0 h1
  have hb0 := bstr_size w0
  have hb1 := bstr_size w1
  by_cases hs : s ≠ 0 ∧ s ≠ 1
  · have z1 : (s != 0) = true := by simpa using hs.1
    have z2 : (s != 1) = true := by simpa using hs.2
    have e : sendER ⟨r, d, p, ws, now, up, ses, w0, y0, a0, w1, y1, a1⟩ s t.size = 2 := by unfold sendER; rw [if_pos hs]
    have e2 : sendR ⟨r, d, p, ws, now, up, ses, w0, y0, a0, w1, y1, a1⟩ s (nums t) = ⟨r, d, p, ws, now, up, ses, w0, y0, a0, w1, y1, a1⟩ := by unfold sendR; rw [hnl, e, if_neg (by decide)]
    rw [e, e2]
    clear e e2 hs h0 h1 ht hnl hb0 hb1 e1
    go_enter Try.func49, Try.ntmps49
    go_wp2_with (first | ((with_reducible refine at_store ?_); refine ls hM ?_ (hy := by (go_simp; rfl)); clear hM; intro wx hM) | ((first | with_reducible refine at_load ?_ | ((with_reducible refine at_load_g ?_ ?_); (· rfl))); first | refine lc hM ?_ | refine ll hM ?_ | refine lp hM ?_) | ((with_reducible refine at_store ?_); first | (refine ls hM ?_; clear hM; intro wx hM) | (refine lw hM ?_; clear hM; intro wx hM) | (refine lt hM ?_; clear hM; intro wx hM)) | ((with_reducible refine at_alloc ?_); refine lz hM ?_; clear hM; intro gx wx hM) | ((with_reducible refine at_box ?_); refine lb hM ?_; clear hM; intro gx wx hM))
    exact bodyPost_ret (results_mem_cell_tmp hM rfl (by rfl) (by repeat (first | exact List.Mem.head _ | apply List.Mem.tail)) (by first | exact row_cfg | exact row_win | exact row_line | exact row_end | exact row_ends | exact row_pkt | exact row_C | exact row_W | exact row_L | exact row_End | exact row_Ends | exact row_B | exact row_op | exact row_str2 | exact row_b3) (by rfl)) rfl ⟨rfl, hM.below⟩
  · cases up with
    | false =>
      have e : sendER ⟨r, d, p, ws, now, false, ses, w0, y0, a0, w1, y1, a1⟩ s t.size = 26 := by unfold sendER; rw [if_neg hs, if_pos rfl]
      have e2 : sendR ⟨r, d, p, ws, now, false, ses, w0, y0, a0, w1, y1, a1⟩ s (nums t) = ⟨r, d, p, ws, now, false, ses, w0, y0, a0, w1, y1, a1⟩ := by unfold sendR; rw [hnl, e, if_neg (by decide)]
      rw [e, e2]
      rcases (show s = 0 ∨ s = 1 by omega) with rfl | rfl
      · clear e e2 hs h0 h1 ht hnl hb0 hb1 e1
        go_enter Try.func49, Try.ntmps49
        go_wp2_with (first | ((with_reducible refine at_store ?_); refine ls hM ?_ (hy := by (go_simp; rfl)); clear hM; intro wx hM) | ((first | with_reducible refine at_load ?_ | ((with_reducible refine at_load_g ?_ ?_); (· rfl))); first | refine lc hM ?_ | refine ll hM ?_ | refine lp hM ?_) | ((with_reducible refine at_store ?_); first | (refine ls hM ?_; clear hM; intro wx hM) | (refine lw hM ?_; clear hM; intro wx hM) | (refine lt hM ?_; clear hM; intro wx hM)) | ((with_reducible refine at_alloc ?_); refine lz hM ?_; clear hM; intro gx wx hM) | ((with_reducible refine at_box ?_); refine lb hM ?_; clear hM; intro gx wx hM))
        exact bodyPost_ret (results_mem_cell_tmp hM rfl (by rfl) (by repeat (first | exact List.Mem.head _ | apply List.Mem.tail)) (by first | exact row_cfg | exact row_win | exact row_line | exact row_end | exact row_ends | exact row_pkt | exact row_C | exact row_W | exact row_L | exact row_End | exact row_Ends | exact row_B | exact row_op | exact row_str2 | exact row_b3) (by rfl)) rfl ⟨rfl, hM.below⟩
      · clear e e2 hs h0 h1 ht hnl hb0 hb1 e1
        go_enter Try.func49, Try.ntmps49
        go_wp2_with (first | ((with_reducible refine at_store ?_); refine ls hM ?_ (hy := by (go_simp; rfl)); clear hM; intro wx hM) | ((first | with_reducible refine at_load ?_ | ((with_reducible refine at_load_g ?_ ?_); (· rfl))); first | refine lc hM ?_ | refine ll hM ?_ | refine lp hM ?_) | ((with_reducible refine at_store ?_); first | (refine ls hM ?_; clear hM; intro wx hM) | (refine lw hM ?_; clear hM; intro wx hM) | (refine lt hM ?_; clear hM; intro wx hM)) | ((with_reducible refine at_alloc ?_); refine lz hM ?_; clear hM; intro gx wx hM) | ((with_reducible refine at_box ?_); refine lb hM ?_; clear hM; intro gx wx hM))
        exact bodyPost_ret (results_mem_cell_tmp hM rfl (by rfl) (by repeat (first | exact List.Mem.head _ | apply List.Mem.tail)) (by first | exact row_cfg | exact row_win | exact row_line | exact row_end | exact row_ends | exact row_pkt | exact row_C | exact row_W | exact row_L | exact row_End | exact row_Ends | exact row_B | exact row_op | exact row_str2 | exact row_b3) (by rfl)) rfl ⟨rfl, hM.below⟩
    | true =>
      rcases (show s = 0 ∨ s = 1 by omega) with rfl | rfl
      · by_cases hb : 1048576 < w0.length + t.size
        · have e : sendER ⟨r, d, p, ws, now, true, ses, w0, y0, a0, w1, y1, a1⟩ 0 t.size = 9 := by unfold sendER; rw [if_neg hs, if_neg (by simp), if_pos (by simpa using hb)]
          have e2 : sendR ⟨r, d, p, ws, now, true, ses, w0, y0, a0, w1, y1, a1⟩ 0 (nums t) = ⟨r, d, p, ws, now, true, ses, w0, y0, a0, w1, y1, a1⟩ := by unfold sendR; rw [hnl, e, if_neg (by decide)]
          rw [e, e2]
          have m1 : 0 ≤ ((bstr w0).size : Int) ∧ ((bstr w0).size : Int) ≤ 1000000000 := by omega
          have m2 : 0 ≤ (t.size : Int) ∧ (t.size : Int) ≤ 1000000000 := by omega
          have t1 : decide ((1048576 : Int) < ((bstr w0).size : Int) + (t.size : Int)) = true := decide_eq_true (by omega)
          clear e e2 hs h0 h1 ht hnl hb0 hb1 e1 hb
          go_enter Try.func49, Try.ntmps49
          go_wp2_with (first | ((with_reducible refine at_store ?_); refine ls hM ?_ (hy := by (go_simp; rfl)); clear hM; intro wx hM) | ((first | with_reducible refine at_load ?_ | ((with_reducible refine at_load_g ?_ ?_); (· rfl))); first | refine lc hM ?_ | refine ll hM ?_ | refine lp hM ?_) | ((with_reducible refine at_store ?_); first | (refine ls hM ?_; clear hM; intro wx hM) | (refine lw hM ?_; clear hM; intro wx hM) | (refine lt hM ?_; clear hM; intro wx hM)) | ((with_reducible refine at_alloc ?_); refine lz hM ?_; clear hM; intro gx wx hM) | ((with_reducible refine at_box ?_); refine lb hM ?_; clear hM; intro gx wx hM))
          exact bodyPost_ret (results_mem_cell_tmp hM rfl (by rfl) (by repeat (first | exact List.Mem.head _ | apply List.Mem.tail)) (by first | exact row_cfg | exact row_win | exact row_line | exact row_end | exact row_ends | exact row_pkt | exact row_C | exact row_W | exact row_L | exact row_End | exact row_Ends | exact row_B | exact row_op | exact row_str2 | exact row_b3) (by rfl)) rfl ⟨rfl, hM.below⟩
        · have e : sendER ⟨r, d, p, ws, now, true, ses, w0, y0, a0, w1, y1, a1⟩ 0 t.size = 0 := by unfold sendER; rw [if_neg hs, if_neg (by simp), if_neg (by simpa using hb)]
          have e2 : sendR ⟨r, d, p, ws, now, true, ses, w0, y0, a0, w1, y1, a1⟩ 0 (nums t) = ⟨r, d, p, ws, now, true, ses, w0 ++ nums t, y0, a0, w1, y1, a1⟩ := by unfold sendR; rw [hnl, e, if_pos rfl, if_pos rfl]
          rw [e, e2]
          have m1 : 0 ≤ ((bstr w0).size : Int) ∧ ((bstr w0).size : Int) ≤ 1000000000 := by omega
          have m2 : 0 ≤ (t.size : Int) ∧ (t.size : Int) ≤ 1000000000 := by omega
          have t1 : decide ((1048576 : Int) < ((bstr w0).size : Int) + (t.size : Int)) = false := decide_eq_false (by omega)
          have c4 : ¬ (9223372036854775807 < (bstr w0).size + t.size) := by omega
          have E1 := e1 w0
          clear e e2 hs h0 h1 ht hnl hb0 hb1 e1 hb
          go_enter Try.func49, Try.ntmps49
          go_wp2_with (first | ((with_reducible refine at_store ?_); refine ls hM ?_ (hy := by (go_simp; rfl)); clear hM; intro wx hM) | ((first | with_reducible refine at_load ?_ | ((with_reducible refine at_load_g ?_ ?_); (· rfl))); first | refine lc hM ?_ | refine ll hM ?_ | refine lp hM ?_) | ((with_reducible refine at_store ?_); first | (refine ls hM ?_; clear hM; intro wx hM) | (refine lw hM ?_; clear hM; intro wx hM) | (refine lt hM ?_; clear hM; intro wx hM)) | ((with_reducible refine at_alloc ?_); refine lz hM ?_; clear hM; intro gx wx hM) | ((with_reducible refine at_box ?_); refine lb hM ?_; clear hM; intro gx wx hM))
          exact bodyPost_ret (results_mem_cell_tmp hM rfl (by rfl) (by repeat (first | exact List.Mem.head _ | apply List.Mem.tail)) (by first | exact row_cfg | exact row_win | exact row_line | exact row_end | exact row_ends | exact row_pkt | exact row_C | exact row_W | exact row_L | exact row_End | exact row_Ends | exact row_B | exact row_op | exact row_str2 | exact row_b3) (by rfl)) rfl ⟨rfl, hM.below⟩
      · by_cases hb : 1048576 < w1.length + t.size
        · have e : sendER ⟨r, d, p, ws, now, true, ses, w0, y0, a0, w1, y1, a1⟩ 1 t.size = 9 := by unfold sendER; rw [if_neg hs, if_neg (by simp), if_pos (by simpa using hb)]
          have e2 : sendR ⟨r, d, p, ws, now, true, ses, w0, y0, a0, w1, y1, a1⟩ 1 (nums t) = ⟨r, d, p, ws, now, true, ses, w0, y0, a0, w1, y1, a1⟩ := by unfold sendR; rw [hnl, e, if_neg (by decide)]
          rw [e, e2]
          have m1 : 0 ≤ ((bstr w1).size : Int) ∧ ((bstr w1).size : Int) ≤ 1000000000 := by omega
          have m2 : 0 ≤ (t.size : Int) ∧ (t.size : Int) ≤ 1000000000 := by omega
          have t1 : decide ((1048576 : Int) < ((bstr w1).size : Int) + (t.size : Int)) = true := decide_eq_true (by omega)
          clear e e2 hs h0 h1 ht hnl hb0 hb1 e1 hb
          go_enter Try.func49, Try.ntmps49
          go_wp2_with (first | ((with_reducible refine at_store ?_); refine ls hM ?_ (hy := by (go_simp; rfl)); clear hM; intro wx hM) | ((first | with_reducible refine at_load ?_ | ((with_reducible refine at_load_g ?_ ?_); (· rfl))); first | refine lc hM ?_ | refine ll hM ?_ | refine lp hM ?_) | ((with_reducible refine at_store ?_); first | (refine ls hM ?_; clear hM; intro wx hM) | (refine lw hM ?_; clear hM; intro wx hM) | (refine lt hM ?_; clear hM; intro wx hM)) | ((with_reducible refine at_alloc ?_); refine lz hM ?_; clear hM; intro gx wx hM) | ((with_reducible refine at_box ?_); refine lb hM ?_; clear hM; intro gx wx hM))
          exact bodyPost_ret (results_mem_cell_tmp hM rfl (by rfl) (by repeat (first | exact List.Mem.head _ | apply List.Mem.tail)) (by first | exact row_cfg | exact row_win | exact row_line | exact row_end | exact row_ends | exact row_pkt | exact row_C | exact row_W | exact row_L | exact row_End | exact row_Ends | exact row_B | exact row_op | exact row_str2 | exact row_b3) (by rfl)) rfl ⟨rfl, hM.below⟩
        · have e : sendER ⟨r, d, p, ws, now, true, ses, w0, y0, a0, w1, y1, a1⟩ 1 t.size = 0 := by unfold sendER; rw [if_neg hs, if_neg (by simp), if_neg (by simpa using hb)]
          have e2 : sendR ⟨r, d, p, ws, now, true, ses, w0, y0, a0, w1, y1, a1⟩ 1 (nums t) = ⟨r, d, p, ws, now, true, ses, w0, y0, a0, w1 ++ nums t, y1, a1⟩ := by unfold sendR; rw [hnl, e, if_pos rfl, if_neg (by decide)]
          rw [e, e2]
          have m1 : 0 ≤ ((bstr w1).size : Int) ∧ ((bstr w1).size : Int) ≤ 1000000000 := by omega
          have m2 : 0 ≤ (t.size : Int) ∧ (t.size : Int) ≤ 1000000000 := by omega
          have t1 : decide ((1048576 : Int) < ((bstr w1).size : Int) + (t.size : Int)) = false := decide_eq_false (by omega)
          have c4 : ¬ (9223372036854775807 < (bstr w1).size + t.size) := by omega
          have E1 := e1 w1
          clear e e2 hs h0 h1 ht hnl hb0 hb1 e1 hb
          go_enter Try.func49, Try.ntmps49
          go_wp2_with (first | ((with_reducible refine at_store ?_); refine ls hM ?_ (hy := by (go_simp; rfl)); clear hM; intro wx hM) | ((first | with_reducible refine at_load ?_ | ((with_reducible refine at_load_g ?_ ?_); (· rfl))); first | refine lc hM ?_ | refine ll hM ?_ | refine lp hM ?_) | ((with_reducible refine at_store ?_); first | (refine ls hM ?_; clear hM; intro wx hM) | (refine lw hM ?_; clear hM; intro wx hM) | (refine lt hM ?_; clear hM; intro wx hM)) | ((with_reducible refine at_alloc ?_); refine lz hM ?_; clear hM; intro gx wx hM) | ((with_reducible refine at_box ?_); refine lb hM ?_; clear hM; intro gx wx hM))
          exact bodyPost_ret (results_mem_cell_tmp hM rfl (by rfl) (by repeat (first | exact List.Mem.head _ | apply List.Mem.tail)) (by first | exact row_cfg | exact row_win | exact row_line | exact row_end | exact row_ends | exact row_pkt | exact row_C | exact row_W | exact row_L | exact row_End | exact row_Ends | exact row_B | exact row_op | exact row_str2 | exact row_b3) (by rfl)) rfl ⟨rfl, hM.below⟩
end Go.Proofs.Ytenflgbaibjeoaa
