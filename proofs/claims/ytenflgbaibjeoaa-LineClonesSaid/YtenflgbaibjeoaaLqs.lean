/- Contract of the reference's Receive. -/
import Derived.Test.YtenflgbaibjeoaaLqr
import Derived.Laws.ResultCell
import Derived.Test.YtenflgbaibjeoaaLnj
namespace Go.Thg
open Go Go.RowKit Go.Bul
theorem results_cell_tmp2 {fn : Func} {p u u2 : Tmp} {ty : TypeId} (h : fn.results = #[.cell p ty, .tmp u, .tmp u2]) (tmps : Array Value) (P : Program) (w : World) :
    (results fn tmps).run P w =
      ((asAddr (tmps.getD p undef)).run P w).andThen fun a w₁ => ((loadVar ty a).run P w₁).andThen fun v w₂ => .ok (.tuple #[v, tmps.getD u undef, tmps.getD u2 undef]) w₂ := by
  simp only [results, h]
  simp [Sem.run_bind, Result.andThen]
theorem results_mem_cell_tmp2 {P : Program} {w w0 : World} {G : List Nat} {L : List Ent} {R : List Thing} (hM : Mem G w0 L R w) {fn : Func} {p u u2 : Tmp} {ty : TypeId} (h : fn.results = #[.cell p ty, .tmp u, .tmp u2]) {tmps : Array Value} {g : Nat} (hp : tmps.getD p undef = .pointer (some ⟨g, 0, none⟩)) {t : TypeId} {n : Nat} {cs : Array Value}
    (hL : ⟨g, t, n, cs⟩ ∈ L) (hty : RowTy P ty n) {e e2 : Value} (he : tmps.getD u undef = e) (he2 : tmps.getD u2 undef = e2) : (results fn tmps).run P w = .ok (.tuple #[.agg cs, e, e2]) w := by
  obtain ⟨d, hu, hd, hi⟩ := hty.ex
  have hl := run_loadVar_row (P := P) w g t ty cs (0, 0) d (hM.blk hL) hu (by cases d <;> simp_all [isRow]) (by rw [hi, hM.size hL])
  rw [results_cell_tmp2 h, hp, he, he2]
  simp [asAddr, hl]
end Go.Thg
namespace Go.Lin
open Go
theorem bstr_take (l : List Nat) {k : Nat} (hk : k ≤ l.length) : (Go.Bul.bstr l).extract 0 k = Go.Bul.bstr (l.take k) := by
  have h := bstr_pre (List.take_prefix k l)
  rw [Go.Bul.bstr_size, List.length_take, Nat.min_eq_left hk] at h
  exact h
theorem bstr_drop (l : List Nat) {k : Nat} : (Go.Bul.bstr l).extract k (Go.Bul.bstr l).size = Go.Bul.bstr (l.drop k) := by
  apply ByteArray.ext
  simp [Go.Bul.bstr, ByteArray.size]
  exact List.take_of_length_le (by simp)
/-- What the reference's Receive leaves. -/
def recvR (T : RL) (s : Int) (k : Nat) : RL := if s = 0 then { T with a0 := T.a0.drop k } else { T with a1 := T.a1.drop k }
end Go.Lin
namespace Go.Proofs.Ytenflgbaibjeoaa
open Go Go.RowKit Go.Bul Go.Thg Go.Lin
set_option maxRecDepth 20000 in
set_option maxHeartbeats 4000000 in
theorem rrecv_no (T : RL) (v : RV) (s n : Int) (w : World) (h : (s ≠ 0 ∧ s ≠ 1) ∨ n < 0) :
    Calls Try.prog 50 #[.agg (refCs T v), .int .i64 s, .int .i64 n] w fun e w' => e = .returned (.tuple #[.agg (refCs T v), .string ⟨#[]⟩, .int .i64 2]) ∧ Below w.heap.size w w' := by
  have hM := Mem.start [] w
  obtain ⟨r, d, p, ws, now, up, ses, w0, y0, a0, w1, y1, a1⟩ := T
  obtain ⟨A, c, Y0, c0, Y1, c1⟩ := v
  by_cases hs : s ≠ 0 ∧ s ≠ 1
  · have z1 : (s != 0) = true := by simpa using hs.1
    have z2 : (s != 1) = true := by simpa using hs.2
    clear hs h
    go_enter Try.func50, Try.ntmps50
    go_wp2_with (first | ((with_reducible refine at_store ?_); refine ls hM ?_ (hy := by (go_simp; rfl)); clear hM; intro wx hM) | ((first | with_reducible refine at_load ?_ | ((with_reducible refine at_load_g ?_ ?_); (· rfl))); first | refine lc hM ?_ | refine ll hM ?_ | refine lp hM ?_) | ((with_reducible refine at_store ?_); first | (refine ls hM ?_; clear hM; intro wx hM) | (refine lw hM ?_; clear hM; intro wx hM) | (refine lt hM ?_; clear hM; intro wx hM)) | ((with_reducible refine at_alloc ?_); refine lz hM ?_; clear hM; intro gx wx hM) | ((with_reducible refine at_box ?_); refine lb hM ?_; clear hM; intro gx wx hM))
    exact bodyPost_ret (results_mem_cell_tmp2 hM rfl (by rfl) (by repeat (first | exact List.Mem.head _ | apply List.Mem.tail)) (by first | exact row_cfg | exact row_win | exact row_line | exact row_end | exact row_ends | exact row_pkt | exact row_C | exact row_W | exact row_L | exact row_End | exact row_Ends | exact row_B | exact row_op | exact row_str2 | exact row_b3) (by rfl) (by rfl)) rfl ⟨rfl, hM.below⟩
  · have hn : decide (n < 0) = true := decide_eq_true (by omega)
    rcases (show s = 0 ∨ s = 1 by omega) with rfl | rfl
    · clear hs h
      go_enter Try.func50, Try.ntmps50
      go_wp2_with (first | ((with_reducible refine at_store ?_); refine ls hM ?_ (hy := by (go_simp; rfl)); clear hM; intro wx hM) | ((first | with_reducible refine at_load ?_ | ((with_reducible refine at_load_g ?_ ?_); (· rfl))); first | refine lc hM ?_ | refine ll hM ?_ | refine lp hM ?_) | ((with_reducible refine at_store ?_); first | (refine ls hM ?_; clear hM; intro wx hM) | (refine lw hM ?_; clear hM; intro wx hM) | (refine lt hM ?_; clear hM; intro wx hM)) | ((with_reducible refine at_alloc ?_); refine lz hM ?_; clear hM; intro gx wx hM) | ((with_reducible refine at_box ?_); refine lb hM ?_; clear hM; intro gx wx hM))
      exact bodyPost_ret (results_mem_cell_tmp2 hM rfl (by rfl) (by repeat (first | exact List.Mem.head _ | apply List.Mem.tail)) (by first | exact row_cfg | exact row_win | exact row_line | exact row_end | exact row_ends | exact row_pkt | exact row_C | exact row_W | exact row_L | exact row_End | exact row_Ends | exact row_B | exact row_op | exact row_str2 | exact row_b3) (by rfl) (by rfl)) rfl ⟨rfl, hM.below⟩
    · clear hs h
      go_enter Try.func50, Try.ntmps50
      go_wp2_with (first | ((with_reducible refine at_store ?_); refine ls hM ?_ (hy := by (go_simp; rfl)); clear hM; intro wx hM) | ((first | with_reducible refine at_load ?_ | ((with_reducible refine at_load_g ?_ ?_); (· rfl))); first | refine lc hM ?_ | refine ll hM ?_ | refine lp hM ?_) | ((with_reducible refine at_store ?_); first | (refine ls hM ?_; clear hM; intro wx hM) | (refine lw hM ?_; clear hM; intro wx hM) | (refine lt hM ?_; clear hM; intro wx hM)) | ((with_reducible refine at_alloc ?_); refine lz hM ?_; clear hM; intro gx wx hM) | ((with_reducible refine at_box ?_); refine lb hM ?_; clear hM; intro gx wx hM))
      exact bodyPost_ret (results_mem_cell_tmp2 hM rfl (by rfl) (by repeat (first | exact List.Mem.head _ | apply List.Mem.tail)) (by first | exact row_cfg | exact row_win | exact row_line | exact row_end | exact row_ends | exact row_pkt | exact row_C | exact row_W | exact row_L | exact row_End | exact row_Ends | exact row_B | exact row_op | exact row_str2 | exact row_b3) (by rfl) (by rfl)) rfl ⟨rfl, hM.below⟩
set_option maxRecDepth 20000 in
set_option maxHeartbeats 4000000 in
theorem rrecv_0 (T : RL) (v : RV) (n : Int) (w : World) (hn : 0 ≤ n) (hl : T.a0.length ≤ 1000000000) :
    Calls Try.prog 50 #[.agg (refCs T v), .int .i64 0, .int .i64 n] w fun e w' => e = .returned (.tuple #[.agg (refCs (recvR T 0 n.toNat) v), .string (bstr (T.a0.take n.toNat)), .int .i64 0]) ∧ Below w.heap.size w w' := by
  have hM := Mem.start [] w
  obtain ⟨r, d, p, ws, now, up, ses, w0, y0, a0, w1, y1, a1⟩ := T
  obtain ⟨A, c, Y0, c0, Y1, c1⟩ := v
  simp only at hl
  have hsz := bstr_size a0
  have e3 : recvR ⟨r, d, p, ws, now, up, ses, w0, y0, a0, w1, y1, a1⟩ 0 n.toNat = ⟨r, d, p, ws, now, up, ses, w0, y0, a0.drop n.toNat, w1, y1, a1⟩ := rfl
  show Calls _ _ _ _ fun e w' => e = .returned (.tuple #[_, .string (bstr (a0.take n.toNat)), _]) ∧ _
  generalize a0 = aa at *
  obtain ⟨k, hk, e1, e2⟩ := take_cases aa hn
  rw [e3, ← e1, ← e2]
  have c1 : decide (n < 0) = false := decide_eq_false (by omega)
  obtain ⟨T, hT⟩ : ∃ T, aa.take k = T := ⟨_, rfl⟩
  obtain ⟨D, hD⟩ : ∃ D, aa.drop k = D := ⟨_, rfl⟩
  rw [hT, hD]
  have hkl : k ≤ aa.length := by omega
  have HT : (bstr aa).extract 0 k = bstr T := by rw [← hT]; exact bstr_take aa hkl
  have HD : (bstr aa).extract k (bstr aa).size = bstr D := by rw [← hD]; exact bstr_drop aa
  have hks : (k : Int) ≤ ((bstr aa).size : Int) := by omega
  have hks2 : k ≤ (bstr aa).size := by omega
  have hmk : (if ((bstr aa).size : Int) < n then ((bstr aa).size : Int) else n) = (k : Int) := by split <;> omega
  have hk0 : (0 : Int) ≤ (k : Int) := Int.natCast_nonneg _
  clear hk hT hD e1 e2 e3 hn hl hsz hkl
  go_enter Try.func50, Try.ntmps50
  go_wp2_with (first | ((with_reducible refine at_store ?_); refine ls hM ?_ (v := .string (bstr D)) (hy := by (go_simp; rfl)); clear hM; intro wx hM) | ((with_reducible refine at_store ?_); refine ls hM ?_ (hy := by (go_simp; rfl)); clear hM; intro wx hM) | ((first | with_reducible refine at_load ?_ | ((with_reducible refine at_load_g ?_ ?_); (· rfl))); first | refine lc hM ?_ | refine ll hM ?_ | refine lp hM ?_) | ((with_reducible refine at_store ?_); first | (refine ls hM ?_; clear hM; intro wx hM) | (refine lw hM ?_; clear hM; intro wx hM) | (refine lt hM ?_; clear hM; intro wx hM)) | ((with_reducible refine at_alloc ?_); refine lz hM ?_; clear hM; intro gx wx hM) | ((with_reducible refine at_box ?_); refine lb hM ?_; clear hM; intro gx wx hM))
  exact bodyPost_ret (results_mem_cell_tmp2 hM rfl (by rfl) (by repeat (first | exact List.Mem.head _ | apply List.Mem.tail)) (by first | exact row_cfg | exact row_win | exact row_line | exact row_end | exact row_ends | exact row_pkt | exact row_C | exact row_W | exact row_L | exact row_End | exact row_Ends | exact row_B | exact row_op | exact row_str2 | exact row_b3) (by rfl) (by rfl)) rfl ⟨rfl, hM.below⟩
set_option maxRecDepth 20000 in
set_option maxHeartbeats 4000000 in
theorem rrecv_1 (T : RL) (v : RV) (n : Int) (w : World) (hn : 0 ≤ n) (hl : T.a1.length ≤ 1000000000) :
    Calls Try.prog 50 #[.agg (refCs T v), .int .i64 1, .int .i64 n] w fun e w' => e = .returned (.tuple #[.agg (refCs (recvR T 1 n.toNat) v), .string (bstr (T.a1.take n.toNat)), .int .i64 0]) ∧ Below w.heap.size w w' := by
  have hM := Mem.start [] w
  obtain ⟨r, d, p, ws, now, up, ses, w0, y0, a0, w1, y1, a1⟩ := T
  obtain ⟨A, c, Y0, c0, Y1, c1⟩ := v
  simp only at hl
  have hsz := bstr_size a1
  have e3 : recvR ⟨r, d, p, ws, now, up, ses, w0, y0, a0, w1, y1, a1⟩ 1 n.toNat = ⟨r, d, p, ws, now, up, ses, w0, y0, a0, w1, y1, a1.drop n.toNat⟩ := rfl
  show Calls _ _ _ _ fun e w' => e = .returned (.tuple #[_, .string (bstr (a1.take n.toNat)), _]) ∧ _
  generalize a1 = aa at *
  obtain ⟨k, hk, e1, e2⟩ := take_cases aa hn
  rw [e3, ← e1, ← e2]
  have c1 : decide (n < 0) = false := decide_eq_false (by omega)
  obtain ⟨T, hT⟩ : ∃ T, aa.take k = T := ⟨_, rfl⟩
  obtain ⟨D, hD⟩ : ∃ D, aa.drop k = D := ⟨_, rfl⟩
  rw [hT, hD]
  have hkl : k ≤ aa.length := by omega
  have HT : (bstr aa).extract 0 k = bstr T := by rw [← hT]; exact bstr_take aa hkl
  have HD : (bstr aa).extract k (bstr aa).size = bstr D := by rw [← hD]; exact bstr_drop aa
  have hks : (k : Int) ≤ ((bstr aa).size : Int) := by omega
  have hks2 : k ≤ (bstr aa).size := by omega
  have hmk : (if ((bstr aa).size : Int) < n then ((bstr aa).size : Int) else n) = (k : Int) := by split <;> omega
  have hk0 : (0 : Int) ≤ (k : Int) := Int.natCast_nonneg _
  clear hk hT hD e1 e2 e3 hn hl hsz hkl
  go_enter Try.func50, Try.ntmps50
  go_wp2_with (first | ((with_reducible refine at_store ?_); refine ls hM ?_ (v := .string (bstr D)) (hy := by (go_simp; rfl)); clear hM; intro wx hM) | ((with_reducible refine at_store ?_); refine ls hM ?_ (hy := by (go_simp; rfl)); clear hM; intro wx hM) | ((first | with_reducible refine at_load ?_ | ((with_reducible refine at_load_g ?_ ?_); (· rfl))); first | refine lc hM ?_ | refine ll hM ?_ | refine lp hM ?_) | ((with_reducible refine at_store ?_); first | (refine ls hM ?_; clear hM; intro wx hM) | (refine lw hM ?_; clear hM; intro wx hM) | (refine lt hM ?_; clear hM; intro wx hM)) | ((with_reducible refine at_alloc ?_); refine lz hM ?_; clear hM; intro gx wx hM) | ((with_reducible refine at_box ?_); refine lb hM ?_; clear hM; intro gx wx hM))
  exact bodyPost_ret (results_mem_cell_tmp2 hM rfl (by rfl) (by repeat (first | exact List.Mem.head _ | apply List.Mem.tail)) (by first | exact row_cfg | exact row_win | exact row_line | exact row_end | exact row_ends | exact row_pkt | exact row_C | exact row_W | exact row_L | exact row_End | exact row_Ends | exact row_B | exact row_op | exact row_str2 | exact row_b3) (by rfl) (by rfl)) rfl ⟨rfl, hM.below⟩
end Go.Proofs.Ytenflgbaibjeoaa
