/- Operations: how they lie in memory; bound. -/
import Derived.Test.YtenflgbaibjeoaaMne
import Derived.Test.YtenflgbaibjeoaaLng
namespace Go.Lin
open Go
/-- An operation. -/
structure OpR where
  kind : Int
  side : Int
  text : ByteArray
  n : Int
structure OpOk (o : OpR) : Prop where
  k0 : 0 ≤ o.kind
  k1 : o.kind < 256
  s0 : -9223372036854775808 ≤ o.side
  s1 : o.side ≤ 9223372036854775807
  n0 : -9223372036854775808 ≤ o.n
  n1 : o.n ≤ 9223372036854775807
abbrev opCs (o : OpR) : Array Value := #[.int .u8 o.kind, .int .i64 o.side, .string o.text, .int .i64 o.n]
/-- An operation within its limits. -/
def boundN (k n : Int) : Int := if (k % 7 = 4 ∨ k % 7 = 5) ∧ 200 < n ∧ n ≤ 10000000 then n % 200 else n
def boundO (o : OpR) : OpR := { o with text := o.text.extract 0 (min o.text.size 200), n := boundN o.kind o.n }
theorem boundO_size (o : OpR) : (boundO o).text.size ≤ 200 := by
  show (o.text.extract 0 (min o.text.size 200)).size ≤ 200
  rw [ByteArray.size_extract]
  omega
theorem boundO_ok {o : OpR} (h : OpOk o) : OpOk (boundO o) := by
  have h1 := h.n0
  have h2 := h.n1
  refine ⟨h.k0, h.k1, h.s0, h.s1, ?_, ?_⟩
  · show -9223372036854775808 ≤ boundN o.kind o.n
    unfold boundN
    split <;> omega
  · show boundN o.kind o.n ≤ 9223372036854775807
    unfold boundN
    split <;> omega
end Go.Lin
namespace Go.Proofs.Ytenflgbaibjeoaa
open Go Go.RowKit Go.Bul Go.Thg Go.Lin
set_option maxRecDepth 20000 in
set_option maxHeartbeats 4000000 in
theorem bound_any (o : OpR) (w : World) (ho : OpOk o) :
    Calls Try.prog 28 #[.agg (opCs o)] w fun e w' => e = .returned (.agg (opCs (boundO o))) ∧ Below w.heap.size w w' := by
  have hM := Mem.start [] w
  obtain ⟨k, s, t, n⟩ := o
  obtain ⟨k0, k1, _, _, n0, n1⟩ := ho
  simp only at k0 k1 n0 n1
  obtain ⟨M, hm⟩ : ∃ M : Int, (if (200 : Int) < (t.size : Int) then (200 : Int) else (t.size : Int)) = M := ⟨_, rfl⟩
  have hM2 : M.toNat = min t.size 200 ∧ 0 ≤ M ∧ M ≤ (t.size : Int) := by split at hm <;> omega
  obtain ⟨b, hb⟩ : ∃ b, t.extract 0 (min t.size 200) = b := ⟨_, rfl⟩
  have e1 : boundO ⟨k, s, t, n⟩ = ⟨k, s, b, boundN k n⟩ := by rw [← hb]; rfl
  rw [e1]
  clear e1
  obtain ⟨m1, m2, m3⟩ := hM2
  by_cases hk : k % 7 = 4 ∨ k % 7 = 5
  · by_cases hn : 200 < n ∧ n ≤ 10000000
    · have e2 : boundN k n = n % 200 := by unfold boundN; rw [if_pos ⟨hk, hn⟩]
      have c1 : decide (200 < n) = true := decide_eq_true hn.1
      have c2 : decide (n ≤ 10000000) = true := decide_eq_true hn.2
      rw [e2]
      clear e2
      rcases hk with hk | hk
      · go_enter Try.func28, Try.ntmps28
        go_wp2_with (first | ((with_reducible refine at_store ?_); (first | refine ls hM ?_ (v := .string b) | refine ls hM ?_ (v := .int .i64 (n % 200)) | refine lw hM ?_); clear hM; intro wx hM) | ((first | with_reducible refine at_load ?_ | ((with_reducible refine at_load_g ?_ ?_); (· rfl))); first | refine lc hM ?_ | refine ll hM ?_ | refine lp hM ?_) | ((with_reducible refine at_store ?_); first | (refine ls hM ?_; clear hM; intro wx hM) | (refine lw hM ?_; clear hM; intro wx hM) | (refine lt hM ?_; clear hM; intro wx hM)) | ((with_reducible refine at_alloc ?_); refine lz hM ?_; clear hM; intro gx wx hM) | ((with_reducible refine at_box ?_); refine lb hM ?_; clear hM; intro gx wx hM))
        exact bodyPost_ret (results_mem_cell hM rfl (by rfl) (by repeat (first | exact List.Mem.head _ | apply List.Mem.tail)) (by first | exact row_cfg | exact row_win | exact row_line | exact row_end | exact row_ends | exact row_pkt | exact row_C | exact row_W | exact row_L | exact row_End | exact row_Ends | exact row_B | exact row_op | exact row_str2 | exact row_b3)) rfl ⟨rfl, hM.below⟩
      · go_enter Try.func28, Try.ntmps28
        go_wp2_with (first | ((with_reducible refine at_store ?_); (first | refine ls hM ?_ (v := .string b) | refine ls hM ?_ (v := .int .i64 (n % 200)) | refine lw hM ?_); clear hM; intro wx hM) | ((first | with_reducible refine at_load ?_ | ((with_reducible refine at_load_g ?_ ?_); (· rfl))); first | refine lc hM ?_ | refine ll hM ?_ | refine lp hM ?_) | ((with_reducible refine at_store ?_); first | (refine ls hM ?_; clear hM; intro wx hM) | (refine lw hM ?_; clear hM; intro wx hM) | (refine lt hM ?_; clear hM; intro wx hM)) | ((with_reducible refine at_alloc ?_); refine lz hM ?_; clear hM; intro gx wx hM) | ((with_reducible refine at_box ?_); refine lb hM ?_; clear hM; intro gx wx hM))
        exact bodyPost_ret (results_mem_cell hM rfl (by rfl) (by repeat (first | exact List.Mem.head _ | apply List.Mem.tail)) (by first | exact row_cfg | exact row_win | exact row_line | exact row_end | exact row_ends | exact row_pkt | exact row_C | exact row_W | exact row_L | exact row_End | exact row_Ends | exact row_B | exact row_op | exact row_str2 | exact row_b3)) rfl ⟨rfl, hM.below⟩
    · have e2 : boundN k n = n := by unfold boundN; rw [if_neg (fun h => hn h.2)]
      rw [e2]
      clear e2
      by_cases h2 : 200 < n
      · have c1 : decide (200 < n) = true := decide_eq_true h2
        have c2 : decide (n ≤ 10000000) = false := decide_eq_false (by omega)
        clear hn
        rcases hk with hk | hk
        · go_enter Try.func28, Try.ntmps28
          go_wp2_with (first | ((with_reducible refine at_store ?_); (first | refine ls hM ?_ (v := .string b) | refine ls hM ?_ (v := .int .i64 (n % 200)) | refine lw hM ?_); clear hM; intro wx hM) | ((first | with_reducible refine at_load ?_ | ((with_reducible refine at_load_g ?_ ?_); (· rfl))); first | refine lc hM ?_ | refine ll hM ?_ | refine lp hM ?_) | ((with_reducible refine at_store ?_); first | (refine ls hM ?_; clear hM; intro wx hM) | (refine lw hM ?_; clear hM; intro wx hM) | (refine lt hM ?_; clear hM; intro wx hM)) | ((with_reducible refine at_alloc ?_); refine lz hM ?_; clear hM; intro gx wx hM) | ((with_reducible refine at_box ?_); refine lb hM ?_; clear hM; intro gx wx hM))
          exact bodyPost_ret (results_mem_cell hM rfl (by rfl) (by repeat (first | exact List.Mem.head _ | apply List.Mem.tail)) (by first | exact row_cfg | exact row_win | exact row_line | exact row_end | exact row_ends | exact row_pkt | exact row_C | exact row_W | exact row_L | exact row_End | exact row_Ends | exact row_B | exact row_op | exact row_str2 | exact row_b3)) rfl ⟨rfl, hM.below⟩
        · go_enter Try.func28, Try.ntmps28
          go_wp2_with (first | ((with_reducible refine at_store ?_); (first | refine ls hM ?_ (v := .string b) | refine ls hM ?_ (v := .int .i64 (n % 200)) | refine lw hM ?_); clear hM; intro wx hM) | ((first | with_reducible refine at_load ?_ | ((with_reducible refine at_load_g ?_ ?_); (· rfl))); first | refine lc hM ?_ | refine ll hM ?_ | refine lp hM ?_) | ((with_reducible refine at_store ?_); first | (refine ls hM ?_; clear hM; intro wx hM) | (refine lw hM ?_; clear hM; intro wx hM) | (refine lt hM ?_; clear hM; intro wx hM)) | ((with_reducible refine at_alloc ?_); refine lz hM ?_; clear hM; intro gx wx hM) | ((with_reducible refine at_box ?_); refine lb hM ?_; clear hM; intro gx wx hM))
          exact bodyPost_ret (results_mem_cell hM rfl (by rfl) (by repeat (first | exact List.Mem.head _ | apply List.Mem.tail)) (by first | exact row_cfg | exact row_win | exact row_line | exact row_end | exact row_ends | exact row_pkt | exact row_C | exact row_W | exact row_L | exact row_End | exact row_Ends | exact row_B | exact row_op | exact row_str2 | exact row_b3)) rfl ⟨rfl, hM.below⟩
      · have c1 : decide (200 < n) = false := decide_eq_false h2
        clear hn
        rcases hk with hk | hk
        · go_enter Try.func28, Try.ntmps28
          go_wp2_with (first | ((with_reducible refine at_store ?_); (first | refine ls hM ?_ (v := .string b) | refine ls hM ?_ (v := .int .i64 (n % 200)) | refine lw hM ?_); clear hM; intro wx hM) | ((first | with_reducible refine at_load ?_ | ((with_reducible refine at_load_g ?_ ?_); (· rfl))); first | refine lc hM ?_ | refine ll hM ?_ | refine lp hM ?_) | ((with_reducible refine at_store ?_); first | (refine ls hM ?_; clear hM; intro wx hM) | (refine lw hM ?_; clear hM; intro wx hM) | (refine lt hM ?_; clear hM; intro wx hM)) | ((with_reducible refine at_alloc ?_); refine lz hM ?_; clear hM; intro gx wx hM) | ((with_reducible refine at_box ?_); refine lb hM ?_; clear hM; intro gx wx hM))
          exact bodyPost_ret (results_mem_cell hM rfl (by rfl) (by repeat (first | exact List.Mem.head _ | apply List.Mem.tail)) (by first | exact row_cfg | exact row_win | exact row_line | exact row_end | exact row_ends | exact row_pkt | exact row_C | exact row_W | exact row_L | exact row_End | exact row_Ends | exact row_B | exact row_op | exact row_str2 | exact row_b3)) rfl ⟨rfl, hM.below⟩
        · go_enter Try.func28, Try.ntmps28
          go_wp2_with (first | ((with_reducible refine at_store ?_); (first | refine ls hM ?_ (v := .string b) | refine ls hM ?_ (v := .int .i64 (n % 200)) | refine lw hM ?_); clear hM; intro wx hM) | ((first | with_reducible refine at_load ?_ | ((with_reducible refine at_load_g ?_ ?_); (· rfl))); first | refine lc hM ?_ | refine ll hM ?_ | refine lp hM ?_) | ((with_reducible refine at_store ?_); first | (refine ls hM ?_; clear hM; intro wx hM) | (refine lw hM ?_; clear hM; intro wx hM) | (refine lt hM ?_; clear hM; intro wx hM)) | ((with_reducible refine at_alloc ?_); refine lz hM ?_; clear hM; intro gx wx hM) | ((with_reducible refine at_box ?_); refine lb hM ?_; clear hM; intro gx wx hM))
          exact bodyPost_ret (results_mem_cell hM rfl (by rfl) (by repeat (first | exact List.Mem.head _ | apply List.Mem.tail)) (by first | exact row_cfg | exact row_win | exact row_line | exact row_end | exact row_ends | exact row_pkt | exact row_C | exact row_W | exact row_L | exact row_End | exact row_Ends | exact row_B | exact row_op | exact row_str2 | exact row_b3)) rfl ⟨rfl, hM.below⟩
  · have e2 : boundN k n = n := by unfold boundN; rw [if_neg (fun h => hk h.1)]
    rw [e2]
    have c1 : (k % 7 == 4) = false := by simp; omega
    have c2 : (k % 7 == 5) = false := by simp; omega
    clear hk e2
    go_enter Try.func28, Try.ntmps28
    go_wp2_with (first | ((with_reducible refine at_store ?_); (first | refine ls hM ?_ (v := .string b) | refine ls hM ?_ (v := .int .i64 (n % 200)) | refine lw hM ?_); clear hM; intro wx hM) | ((first | with_reducible refine at_load ?_ | ((with_reducible refine at_load_g ?_ ?_); (· rfl))); first | refine lc hM ?_ | refine ll hM ?_ | refine lp hM ?_) | ((with_reducible refine at_store ?_); first | (refine ls hM ?_; clear hM; intro wx hM) | (refine lw hM ?_; clear hM; intro wx hM) | (refine lt hM ?_; clear hM; intro wx hM)) | ((with_reducible refine at_alloc ?_); refine lz hM ?_; clear hM; intro gx wx hM) | ((with_reducible refine at_box ?_); refine lb hM ?_; clear hM; intro gx wx hM))
    exact bodyPost_ret (results_mem_cell hM rfl (by rfl) (by repeat (first | exact List.Mem.head _ | apply List.Mem.tail)) (by first | exact row_cfg | exact row_win | exact row_line | exact row_end | exact row_ends | exact row_pkt | exact row_C | exact row_W | exact row_L | exact row_End | exact row_Ends | exact row_B | exact row_op | exact row_str2 | exact row_b3)) rfl ⟨rfl, hM.below⟩
/-- Operations that a slice reads as. -/
structure OpsIn (w : World) (A : Option Addr) (n : Nat) (os : List OpR) : Prop where
  len : n = os.length
  ok : ∀ o ∈ os, OpOk o
  at_ : 0 < n → ∃ g off, A = some ⟨g, off, none⟩ ∧ g < w.heap.size ∧ ∀ i (h : i < os.length) j u, (opCs os[i])[j]? = some u → w.cell? ⟨g, off + i * 4 + j, none⟩ = some u
theorem OpsIn.keep {w w' : World} {A : Option Addr} {n : Nat} {os : List OpR} (h : OpsIn w A n os) (hb : Below w.heap.size w w') : OpsIn w' A n os :=
  ⟨h.len, h.ok, fun h0 => by
    obtain ⟨g, off, h1, h2, h3⟩ := h.at_ h0
    exact ⟨g, off, h1, Nat.lt_of_lt_of_le h2 hb.size, fun i hi j u hu => (hb.cell (p := ⟨g, off + i * 4 + j, none⟩) h2).trans (h3 i hi j u hu)⟩⟩
theorem OpsIn.cell {w : World} {g off n : Nat} {os : List OpR} (h : OpsIn w (some ⟨g, off, none⟩) n os) (i : Nat) (hi : i < os.length) : ∀ j u, (opCs os[i])[j]? = some u → w.cell? ⟨g, off + i * 4 + j, none⟩ = some u := by
  have hl := h.len
  obtain ⟨g', off', he, _, h2⟩ := h.at_ (by omega)
  injection he with he
  injection he with e1 e2
  subst e1 e2
  exact h2 i hi
end Go.Proofs.Ytenflgbaibjeoaa
