/- Contract of sha256.load: the sixteen words of a block of 64 bytes. Condition: the elements are bytes. Contract of sha256's words.digest: the bytes of a state. Condition: the words are below 2^32. A Hash in memory: what its cells say of the bytes that were written; slices that read as bytes. -/
import Derived.Test.YtbbdnlcjjcmllaaDoorVc
import Derived.LoopN
namespace Go.Proofs.YtbbdnlcjjcmllaaDoor
open Go Go.RowKit Go.Bul
/-- What a word holds after k of its bytes. -/
def pw (b : List Nat) (j : Nat) : Nat → Nat
  | 0 => 0
  | k + 1 => pw b j k * 256 + b.getD (4 * j + k) 0
theorem pw_lt {b : List Nat} (hb : Bytes b) (j : Nat) : ∀ k, pw b j k < 256 ^ k
  | 0 => by simp [pw]
  | k + 1 => by
    have h1 := pw_lt hb j k
    have h2 := hb.getD (4 * j + k)
    rw [pw, Nat.pow_succ]
    omega
theorem pw_four (b : List Nat) (j : Nat) : pw b j 4 = word b j := by simp [pw, word]
def LoadInv (b : List Nat) (i : Nat) (l : List Nat) : Prop := l.length = 16 ∧ ∀ j, j < 16 → l.getD j 0 = pw b j (min (i - 4 * j) 4)
theorem LoadInv.start (b : List Nat) : LoadInv b 0 (List.replicate 16 0) := by
  refine ⟨by simp, fun j hj => ?_⟩
  rw [List.getD_eq_getElem?_getD, List.getElem?_replicate, if_pos hj]
  simp [pw]
theorem LoadInv.next {b : List Nat} {i : Nat} {l : List Nat} (h : LoadInv b i l) (hi : i < 64) : LoadInv b (i + 1) (l.set (i / 4) (l.getD (i / 4) 0 * 256 + b.getD i 0)) := by
  refine ⟨by simp [h.1], fun j hj => ?_⟩
  rw [getD_set _ _ _ _ (by rw [h.1]; omega)]
  split
  · rename_i e
    subst e
    rw [h.2 _ (by omega), show min (i + 1 - 4 * (i / 4)) 4 = min (i - 4 * (i / 4)) 4 + 1 by omega, pw, show 4 * (i / 4) + min (i - 4 * (i / 4)) 4 = i by omega]
  · rename_i e
    rw [h.2 j hj, show min (i + 1 - 4 * j) 4 = min (i - 4 * j) 4 by omega]
theorem or_byte (x c : Nat) (hx : x * 256 < 4294967296) (hc : c < 256) (q : Int) (hq : q = (x : Int) * 256) : bits .or .u32 q ↑c = ((x * 256 + c : Nat) : Int) := by
  have h : q = ((x * 256 : Nat) : Int) := by rw [hq]; omega
  rw [h, u32_or_nat _ _ hx (by omega)]
  have := Nat.shiftLeft_add_eq_or_of_lt (i := 8) (b := c) (by omega) x
  rw [Nat.shiftLeft_eq] at this
  rw [← this]
structure LoadW (W : World) (b : List Nat) (i : Nat) (w : World) : Prop where
  win : ∃ l, LoadInv b i l ∧ Blk w (W.heap.size + 1 + 1) 148 (cellsOf .u32 l)
  r : ∃ l : List Nat, l.length = 16 ∧ Blk w (W.heap.size + 1) 148 (cellsOf .u32 l)
  old : Below W.heap.size W w
theorem zero_w16 : (Tryd.prog.info? 148).map (·.zero) = some (some (.agg (cellsOf .u32 (List.replicate 16 0)))) := by kernel_rfl
theorem size_w16 : (Tryd.prog.info? 148).map (·.size) = some 16 := by kernel_rfl
theorem size_b64 : (Tryd.prog.info? 135).map (·.size) = some 64 := by kernel_rfl
theorem size_u8 : (Tryd.prog.info? 5).map (·.size) = some 1 := by kernel_rfl
theorem size_u32 : (Tryd.prog.info? 112).map (·.size) = some 1 := by kernel_rfl
set_option maxHeartbeats 1000000 in
theorem load_any (b : List Nat) (w : World) (hb : Bytes b) (hl : b.length = 64) :
    Calls Tryd.prog 81 #[.agg (cellsOf .u8 b)] w fun e w' => e = .returned (.agg (cellsOf .u32 ((List.range 16).map (word b)))) ∧ Below w.heap.size w w' := by
  have HL := Lib.hid hl
  clear hl
  go_enter Tryd.func81, Tryd.ntmps81
  go_wp2_with (first
    | (with_reducible refine wpList_alloc_zero rfl 148 rfl _ zero_w16 ?_)
    | (with_reducible refine wpList_load_blk rfl 135 (.tmp 1) rfl w.heap.size rfl _ _ 64 _ (((Blk.new' w _ _ _ rfl).alloc _).alloc _) Tryd.underlying135 rfl size_b64 ((cellsOf_size _ _).trans HL.out) ?_))
  go_loopw [7] (fun i wr => ∃ k : Nat, k ≤ 64 ∧ i = .int .i64 k ∧ LoadW w b k wr) (fun i _ => 64 - (intOf i).toNat)
  case atStart =>
    refine ⟨0, by omega, rfl, ⟨_, LoadInv.start b, Blk.new' _ _ _ _ (by simp)⟩, ⟨_, by simp, (Blk.new' _ _ (cellsOf .u32 (List.replicate 16 0)) _ (by simp)).alloc _⟩, ?_⟩
    repeat' (first | with_reducible exact Below.refl _ _ | with_reducible assumption | with_reducible refine Below.setCell ?_ ?_ _ | with_reducible refine below_drewN ?_ _ | with_reducible refine Below.drew ?_ | with_reducible refine Below.alloc ?_ ?_ _)
    all_goals first | (simp; done) | (simp; omega) | omega
  case round =>
    obtain ⟨k, hk, rfl, hI⟩ := hrel
    obtain ⟨⟨l, hl, hW⟩, ⟨lr, hlr, hR⟩, hold⟩ := hI
    by_cases hlt : k < 64
    · obtain ⟨c, hc⟩ : ∃ c, c = b.getD k 0 := ⟨_, rfl⟩
      obtain ⟨x, hx⟩ : ∃ x, x = l.getD (k / 4) 0 := ⟨_, rfl⟩
      obtain ⟨j, hj⟩ : ∃ j, j = k / 4 := ⟨_, rfl⟩
      have ix : ∀ W, (Instr.index 135 (.agg (cellsOf .u8 b)) (.int .i64 (k : Nat))).run Tryd.prog W = .ok (.int .u8 (c : Nat)) W := fun W => by
        rw [hc]; exact run_index_num Tryd.underlying135 Tryd.underlying5 rfl size_u8 b k HL.out hlt W
      have hc' : c < 256 := by rw [hc]; exact hb.getD _
      have hx' : x * 256 < 4294967296 := by
        rw [hx, hl.2 _ (by omega)]
        have := pw_lt hb (k / 4) (min (k - 4 * (k / 4)) 4)
        have h3 : min (k - 4 * (k / 4)) 4 ≤ 3 := by omega
        have := Nat.pow_le_pow_right (n := 256) (by omega) h3
        omega
      have ej : (k : Int) / 4 = (j : Int) := by omega
      have bj : (j : Int) < 16 := by omega
      have cj : wr.cell? ⟨w.heap.size + 1 + 1, j, none⟩ = some (.int .u32 (x : Nat)) := by rw [hW.num (by rw [hl.1]; omega), hj, hx]
      have fj : wr.frozen? ⟨w.heap.size + 1 + 1, j, none⟩ = false := hW.free _
      have hor := or_byte x c hx' hc' _ rfl
      have H := Lib.hid (And.intro hc (And.intro hx hj))
      clear hc hx hj
      go_wp2_with fail
      go_roundw
      case measure => simp [intOf]; omega
      obtain ⟨hc, hx, hj⟩ := H.out
      refine ⟨k + 1, by omega, by go_num, ⟨_, hl.next hlt, ?_⟩, ⟨lr, hlr, hR.far (by dsimp only; omega) _⟩, hold.setCell (by dsimp only; omega) _⟩
      rw [← hj, ← hc, ← cellsOf_set, show l.getD j 0 = x by rw [hx, hj]]
      exact hW.set _ _
    · obtain rfl : k = 64 := by omega
      have hlast : l = (List.range 16).map (word b) := by
        apply List.ext_getElem (by simp [hl.1])
        intro i h1 h2
        have hi : i < 16 := by rw [hl.1] at h1; exact h1
        have := hl.2 i hi
        rw [show min (64 - 4 * i) 4 = 4 by omega, pw_four] at this
        simpa [h1] using this
      rw [hlast] at hW
      go_wp2_with (first
        | (with_reducible refine wpList_load_blk rfl 148 (.tmp 3) rfl _ rfl _ _ 16 _ hW Tryd.underlying148 rfl size_w16 (by simp) ?_)
        | ((with_reducible refine wpList_store_blk rfl 148 (.tmp 2) (.tmp 23) rfl _ rfl _ rfl _ _ 16 hR size_w16 (by simp) (by simp [hlr]) (vals_one _ _) rfl ?_); intro w2 hw2))
      exact bodyPost_ret (results_cell_row rfl _ _ (w.heap.size + 1) _ _ _ _ rfl (by rw [hw2]; exact hR.row _) Tryd.underlying148 rfl (by rw [size_w16]; simp)) rfl ⟨rfl, by rw [hw2]; exact below_setRow hold (by omega) _⟩
end Go.Proofs.YtbbdnlcjjcmllaaDoor
namespace Go.Proofs.YtbbdnlcjjcmllaaDoor
open Go Go.RowKit Go.Bul
theorem zero_dig : (Tryd.prog.info? 128).map (·.zero) = some (some (.agg (cellsOf .u8 (List.replicate 32 0)))) := by kernel_rfl
theorem size_dig : (Tryd.prog.info? 128).map (·.size) = some 32 := by kernel_rfl
theorem out_getD (v : Bul.St) (i : Nat) (hi : i < 8) : v.out.getD (4 * i) 0 = v.list.getD i 0 / 16777216 % 256 ∧ v.out.getD (4 * i + 1) 0 = v.list.getD i 0 / 65536 % 256 ∧ v.out.getD (4 * i + 2) 0 = v.list.getD i 0 / 256 % 256 ∧ v.out.getD (4 * i + 3) 0 = v.list.getD i 0 % 256 := by
  rw [Bul.St.out_eq]
  rcases (show i = 0 ∨ i = 1 ∨ i = 2 ∨ i = 3 ∨ i = 4 ∨ i = 5 ∨ i = 6 ∨ i = 7 by omega) with rfl | rfl | rfl | rfl | rfl | rfl | rfl | rfl <;> exact ⟨rfl, rfl, rfl, rfl⟩
def DigInv (v : Bul.St) (i : Nat) (l : List Nat) : Prop := l.length = 32 ∧ ∀ j, j < 4 * i → l.getD j 0 = v.out.getD j 0
theorem DigInv.next {v : Bul.St} {i : Nat} {l : List Nat} (h : DigInv v i l) (hi : i < 8) (x : Nat) (hx : x = v.list.getD i 0) (l' : List Nat)
    (hl : l' = (((l.set (4 * i) (x / 16777216 % 256)).set (4 * i + 1) (x / 65536 % 256)).set (4 * i + 2) (x / 256 % 256)).set (4 * i + 3) (x % 256)) : DigInv v (i + 1) l' := by
  subst hl
  have hlen := h.1
  have ho := out_getD v i hi
  rw [← hx] at ho
  refine ⟨by simp [hlen], fun j hj => ?_⟩
  rw [getD_set _ _ _ _ (by simp [hlen]; omega), getD_set _ _ _ _ (by simp [hlen]; omega), getD_set _ _ _ _ (by simp [hlen]; omega), getD_set _ _ _ _ (by omega)]
  by_cases h3 : 4 * i + 3 = j
  · rw [if_pos h3, ← h3]; exact ho.2.2.2.symm
  rw [if_neg h3]
  by_cases h2 : 4 * i + 2 = j
  · rw [if_pos h2, ← h2]; exact ho.2.2.1.symm
  rw [if_neg h2]
  by_cases h1 : 4 * i + 1 = j
  · rw [if_pos h1, ← h1]; exact ho.2.1.symm
  rw [if_neg h1]
  by_cases h0 : 4 * i = j
  · rw [if_pos h0, ← h0]; exact ho.1.symm
  rw [if_neg h0]
  exact h.2 j (by omega)
theorem DigInv.done {v : Bul.St} {l : List Nat} (h : DigInv v 8 l) : l = v.out := by
  apply List.ext_getElem (by rw [h.1, Bul.out_length])
  intro i h1 h2
  have := h.2 i (by rw [h.1] at h1; omega)
  simpa [h1, h2] using this
structure DigW (W : World) (v : Bul.St) (i : Nat) (w : World) : Prop where
  d : ∃ l, DigInv v i l ∧ Blk w (W.heap.size + 1 + 1) 128 (cellsOf .u8 l)
  r : ∃ l : List Nat, l.length = 32 ∧ Blk w (W.heap.size + 1) 128 (cellsOf .u8 l)
  old : Below W.heap.size W w
set_option maxRecDepth 20000 in
set_option maxHeartbeats 1000000 in
theorem digest_any (v : Bul.St) (w : World) (hv : v.Ok) :
    Calls Tryd.prog 82 #[stv v] w fun e w' => e = .returned (.agg (cellsOf .u8 v.out)) ∧ Below w.heap.size w w' := by
  rw [stv_eq v]
  go_enter Tryd.func82, Tryd.ntmps82
  go_wp2_with (first
    | (with_reducible refine wpList_alloc_zero rfl 128 rfl _ zero_dig ?_))
  go_loopw [24] (fun i wr => ∃ k : Nat, k ≤ 8 ∧ i = .int .i64 k ∧ DigW w v k wr) (fun i _ => 8 - (intOf i).toNat)
  case atStart =>
    refine ⟨0, by omega, rfl, ⟨_, ⟨by simp, fun j hj => by omega⟩, Blk.new' _ _ (cellsOf .u8 (List.replicate 32 0)) _ (by simp)⟩, ⟨_, by simp, (Blk.new' _ _ (cellsOf .u8 (List.replicate 32 0)) _ (by simp)).alloc _⟩, ?_⟩
    repeat' (first | with_reducible exact Below.refl _ _ | with_reducible assumption | with_reducible refine Below.setCell ?_ ?_ _ | with_reducible refine below_drewN ?_ _ | with_reducible refine Below.drew ?_ | with_reducible refine Below.alloc ?_ ?_ _)
    all_goals first | (simp; done) | (simp; omega) | omega
  case round =>
    obtain ⟨k, hk, rfl, hI⟩ := hrel
    obtain ⟨⟨l, hl, hW⟩, ⟨lr, hlr, hR⟩, hold⟩ := hI
    by_cases hlt : k < 8
    · obtain ⟨x, hx⟩ : ∃ x, x = v.list.getD k 0 := ⟨_, rfl⟩
      have ix : ∀ W, (Instr.index 155 (.agg #[.int .u32 v.a, .int .u32 v.b, .int .u32 v.c, .int .u32 v.d, .int .u32 v.e, .int .u32 v.f, .int .u32 v.g, .int .u32 v.h]) (.int .i64 (k : Nat))).run Tryd.prog W = .ok (.int .u32 (x : Nat)) W := fun W => by
        rw [hx]; exact run_index_num (l := v.list) Tryd.underlying155 Tryd.underlying112 rfl size_u32 k rfl hlt W
      have hx' : x < 4294967296 := by
        rw [hx]
        obtain ⟨h1, h2, h3, h4, h5, h6, h7, h8⟩ := hv
        rcases (show k = 0 ∨ k = 1 ∨ k = 2 ∨ k = 3 ∨ k = 4 ∨ k = 5 ∨ k = 6 ∨ k = 7 by omega) with rfl | rfl | rfl | rfl | rfl | rfl | rfl | rfl <;> assumption
      have hlen := hl.1
      have g0 : ∀ i, i < 32 → wr.cell? ⟨w.heap.size + 1 + 1, i, none⟩ = some (.int .u8 (l.getD i 0 : Nat)) := fun i hi => hW.num (by omega)
      have c0 := g0 (4 * k) (by omega)
      have c1 := g0 (4 * k + 1) (by omega)
      have c2 := g0 (4 * k + 2) (by omega)
      have c3 := g0 (4 * k + 3) (by omega)
      have f0 : wr.frozen? ⟨w.heap.size + 1 + 1, 4 * k, none⟩ = false := hW.free _
      have f1 : wr.frozen? ⟨w.heap.size + 1 + 1, 4 * k + 1, none⟩ = false := hW.free _
      have f2 : wr.frozen? ⟨w.heap.size + 1 + 1, 4 * k + 2, none⟩ = false := hW.free _
      have f3 : wr.frozen? ⟨w.heap.size + 1 + 1, 4 * k + 3, none⟩ = false := hW.free _
      have H := Lib.hid (And.intro hx hlen)
      clear hx hlen g0
      go_wp2_with fail
      refine wp_loop_rounds 5 ?_
      rw [rounds_succ]; go_wp2_with fail
      rw [rounds_succ]; go_wp2_with fail
      rw [rounds_succ]; go_wp2_with fail
      rw [rounds_succ]; go_wp2_with fail
      rw [rounds_succ]; go_wp2_with fail
      obtain ⟨hx, hlen⟩ := H.out
      have q0 : (x : Int) / (16777216 : Int) = ((x / 16777216 % 256 : Nat) : Int) := by omega
      have q1 : (x : Int) / (65536 : Int) % (256 : Int) = ((x / 65536 % 256 : Nat) : Int) := by omega
      have q2 : (x : Int) / (256 : Int) % (256 : Int) = ((x / 256 % 256 : Nat) : Int) := by omega
      have q3 : (x : Int) % (256 : Int) = ((x % 256 : Nat) : Int) := by omega
      refine ⟨⟨k + 1, by omega, by go_num, ⟨_, hl.next hlt x hx _ rfl, ?_⟩, ⟨lr, hlr, (((hR.far (by dsimp only; omega) _).far (by dsimp only; omega) _).far (by dsimp only; omega) _).far (by dsimp only; omega) _⟩,
        (((hold.setCell (by dsimp only; omega) _).setCell (by dsimp only; omega) _).setCell (by dsimp only; omega) _).setCell (by dsimp only; omega) _⟩, by simp [intOf]; omega⟩
      rw [q0, q1, q2, q3, ← cellsOf_set, ← cellsOf_set, ← cellsOf_set, ← cellsOf_set]
      exact (((hW.set _ _).set _ _).set _ _).set _ _
    · obtain rfl : k = 8 := by omega
      rw [hl.done] at hW
      go_wp2_with (first
        | (with_reducible refine wpList_load_blk rfl 128 (.tmp 3) rfl _ rfl _ _ 32 _ hW Tryd.underlying128 rfl size_dig (by simp [Bul.out_length]) ?_)
        | ((with_reducible refine wpList_store_blk rfl 128 (.tmp 2) (.tmp 44) rfl _ rfl _ rfl _ _ 32 hR size_dig (by simp [Bul.out_length]) (by simp [hlr]) (vals_one _ _) rfl ?_); intro w2 hw2))
      exact bodyPost_ret (results_cell_row rfl _ _ (w.heap.size + 1) _ _ _ _ rfl (by rw [hw2]; exact hR.row _) Tryd.underlying128 rfl (by rw [size_dig]; simp [Bul.out_length])) rfl ⟨rfl, by rw [hw2]; exact below_setRow hold (by omega) _⟩
end Go.Proofs.YtbbdnlcjjcmllaaDoor
namespace Go.Proofs.YtbbdnlcjjcmllaaDoor
open Go Go.RowKit Go.Bul
/-- The cells of a Hash: the state, the block, the length. -/
def hashl (st : Bul.St) (blk : List Nat) (n : Nat) : List Value := vals .u32 st.list ++ (vals .u8 blk ++ [.int .i64 (n : Nat)])
def hashc (st : Bul.St) (blk : List Nat) (n : Nat) : Array Value := (hashl st blk n).toArray
theorem stl_length (st : Bul.St) : st.list.length = 8 := rfl
theorem hashl_length (st : Bul.St) (blk : List Nat) (n : Nat) (hb : blk.length = 64) : (hashl st blk n).length = 73 := by simp [hashl, stl_length, hb]
theorem hashc_size (st : Bul.St) (blk : List Nat) (n : Nat) (hb : blk.length = 64) : (hashc st blk n).size = 73 := by simp [hashc, hashl_length st blk n hb]
theorem hashc_one (st : Bul.St) (blk : List Nat) (n : Nat) : ∀ v ∈ (hashc st blk n).toList, v.oneCell' = true := by
  intro v hv
  simp only [hashc, hashl, List.mem_append, List.mem_singleton] at hv
  rcases hv with hv | hv | rfl
  · exact vals_one _ _ v hv
  · exact vals_one _ _ v hv
  · rfl
theorem hashc_len (st : Bul.St) (blk : List Nat) (n : Nat) (hb : blk.length = 64) : (hashc st blk n)[72]? = some (.int .i64 (n : Nat)) := by
  simp only [hashc, hashl, List.getElem?_toArray]
  rw [List.getElem?_append_right (by simp [stl_length]), List.getElem?_append_right (by simp [stl_length, hb])]
  simp [stl_length, hb]
theorem hashc_set_len (st : Bul.St) (blk : List Nat) (n m : Nat) (hb : blk.length = 64) : (hashc st blk n).setIfInBounds 72 (.int .i64 (m : Nat)) = hashc st blk m := by
  simp only [hashc, hashl, List.setIfInBounds_toArray]
  rw [List.set_append_right _ _ (by simp [stl_length]), List.set_append_right _ _ (by simp [stl_length, hb])]
  simp [stl_length, hb]
theorem hashc_block (st : Bul.St) (blk : List Nat) (n : Nat) (hb : blk.length = 64) : (hashc st blk n).extract 8 (8 + 64) = cellsOf .u8 blk := by
  apply Array.ext'
  simp only [hashc, hashl, List.extract_toArray, cellsOf, List.extract_eq_take_drop]
  rw [List.drop_append_of_le_length (by simp [stl_length]), List.drop_of_length_le (by simp [stl_length]), List.nil_append, List.take_append_of_le_length (by simp [hb]), List.take_of_length_le (by simp [hb])]
theorem hashc_state8 (st : Bul.St) (blk : List Nat) (n : Nat) : (hashc st blk n).extract 0 (0 + 8) = stc st := by
  apply Array.ext'
  simp only [hashc, hashl, List.extract_toArray, stc, cellsOf, List.extract_eq_take_drop]
  rw [List.drop_zero, List.take_append_of_le_length (by simp [stl_length]), List.take_of_length_le (by simp [stl_length])]
theorem hashc_set_state (st st' : Bul.St) (blk : List Nat) (n : Nat) : (splice (hashc st blk n).toList 0 (stc st').toList).toArray = hashc st' blk n := by
  simp only [hashc, hashl, splice, stc, cellsOf, List.take_zero, List.nil_append, Nat.zero_add, vals_length, stl_length]
  rw [List.drop_append_of_le_length (by simp [stl_length]), List.drop_of_length_le (by simp [stl_length]), List.nil_append]
theorem hashl_splice (st : Bul.St) (blk : List Nat) (n r : Nat) (cs : List Nat) (hb : blk.length = 64) (hr : r + cs.length ≤ 64) :
    (hashc st blk n).toList.take (8 + r) ++ (vals .u8 cs ++ (hashc st blk n).toList.drop (8 + r + (vals .u8 cs).length)) = hashl st (blk.take r ++ (cs ++ blk.drop (r + cs.length))) n := by
  simp only [hashc, hashl]
  have h8 : (vals .u32 st.list).length = 8 := by simp [stl_length]
  have e1 : (vals IntKind.u32 st.list ++ (vals .u8 blk ++ [Value.int .i64 (n : Nat)])).take (8 + r) = vals .u32 st.list ++ vals .u8 (blk.take r) := by
    rw [List.take_append, List.take_of_length_le (by rw [h8]; omega), h8, show 8 + r - 8 = r by omega, List.take_append_of_le_length (by simp [hb]; omega)]
    simp [vals, List.map_take]
  have e2 : (vals IntKind.u32 st.list ++ (vals .u8 blk ++ [Value.int .i64 (n : Nat)])).drop (8 + r + (vals .u8 cs).length) = vals .u8 (blk.drop (r + cs.length)) ++ [Value.int .i64 (n : Nat)] := by
    rw [List.drop_append, List.drop_of_length_le (by rw [h8]; omega), h8, vals_length, show 8 + r + cs.length - 8 = r + cs.length by omega, List.drop_append_of_le_length (by simp [hb]; omega)]
    simp [vals, List.map_drop]
  rw [e1, e2]
  simp [vals]
/-- The Hash in block g has been given the bytes l; its state is right even if none came. -/
structure HashLoop (w : World) (g : Nat) (l : List Nat) : Prop where
  bytes : Bytes l
  size : l.length ≤ 9223372036854775807
  ex : ∃ blk, Blk w g 145 (hashc (after l) blk l.length) ∧ blk.length = 64 ∧ Bytes blk ∧ blk.take (l.length % 64) = rest l
/-- The Hash in block g has been given the bytes l. -/
structure HashAt (w : World) (g : Nat) (l : List Nat) : Prop where
  bytes : Bytes l
  size : l.length ≤ 9223372036854775807
  ex : ∃ st blk, Blk w g 145 (hashc st blk l.length) ∧ blk.length = 64 ∧ Bytes blk ∧ blk.take (l.length % 64) = rest l ∧ (l ≠ [] → st = after l)
theorem HashLoop.at_ {w : World} {g : Nat} {l : List Nat} (h : HashLoop w g l) : HashAt w g l := by
  obtain ⟨blk, h1, h2, h3, h4⟩ := h.ex
  exact ⟨h.bytes, h.size, _, blk, h1, h2, h3, h4, fun _ => rfl⟩
theorem HashAt.of_block {w w' : World} {g : Nat} {l : List Nat} (h : HashAt w g l) (hb : w'.heap[g]? = w.heap[g]?) : HashAt w' g l := by
  obtain ⟨st, blk, h1, h2⟩ := h.ex
  exact ⟨h.bytes, h.size, st, blk, hb.trans h1, h2⟩
theorem HashAt.keep {w w' : World} {g : Nat} {l : List Nat} (h : HashAt w g l) (hb : Below w.heap.size w w') : HashAt w' g l := by
  obtain ⟨st, blk, h1, h2⟩ := h.ex
  exact ⟨h.bytes, h.size, st, blk, h1.kept hb, h2⟩
theorem take_more (bs : List Nat) (k p : Nat) : bs.take (k + p) = bs.take k ++ (bs.drop k).take p := by rw [List.take_add]
/-- A piece that does not fill the block. -/
theorem HashLoop.part {w : World} {g : Nat} {L ch blk blk2 : List Nat} (hL : Bytes L) (hc : Bytes ch) (hs : (L ++ ch).length ≤ 9223372036854775807) (hp : L.length % 64 + ch.length < 64)
    (hb : blk.length = 64) (ht : blk.take (L.length % 64) = rest L) (h2 : blk2 = blk.take (L.length % 64) ++ (ch ++ blk.drop (L.length % 64 + ch.length))) (hbb : Bytes blk2)
    (hB : Blk w g 145 (hashc (after L) blk2 (L.length + ch.length))) : HashLoop w g (L ++ ch) := by
  obtain ⟨e1, e2⟩ := after_part hp
  refine ⟨hL.append hc, hs, blk2, ?_, ?_, hbb, ?_⟩
  · rw [e1, List.length_append]; exact hB
  · rw [h2]; simp [hb]; omega
  · rw [e2, List.length_append, show (L.length + ch.length) % 64 = L.length % 64 + ch.length by omega, h2, ← ht]
    rw [← List.append_assoc, List.take_append_of_le_length (by simp [hb]; omega), List.take_of_length_le (by simp [hb]; omega)]
/-- A piece that fills it. -/
theorem HashLoop.full {w : World} {g : Nat} {L ch blk blk2 : List Nat} (hL : Bytes L) (hc : Bytes ch) (hs : (L ++ ch).length ≤ 9223372036854775807) (hp : L.length % 64 + ch.length = 64)
    (hb : blk.length = 64) (ht : blk.take (L.length % 64) = rest L) (h2 : blk2 = blk.take (L.length % 64) ++ (ch ++ blk.drop (L.length % 64 + ch.length))) (hbb : Bytes blk2)
    (hB : Blk w g 145 (hashc (compress (after L) (word blk2)) blk2 (L.length + ch.length))) : HashLoop w g (L ++ ch) := by
  obtain ⟨e1, e2⟩ := after_full hp
  have h3 : blk2 = rest L ++ ch := by rw [h2, hp, List.drop_of_length_le (by omega), List.append_nil, ht]
  refine ⟨hL.append hc, hs, blk2, ?_, ?_, hbb, ?_⟩
  · rw [e1, ← h3, List.length_append]; exact hB
  · rw [h2]; simp [hb]; omega
  · rw [e2, List.length_append, show (L.length + ch.length) % 64 = 0 by omega]; rfl
theorem Tab.only {w w' : World} {g : Nat} (h : Tab w) (ho : Only g w w') (hg : 1 ≠ g) : Tab w' := fun i hi => by
  have h0 := h i hi
  have hlt := block_lt_of_cell (h 0 (by omega))
  exact (World.cell?_of_block (w := w) (a := ⟨1, i, none⟩) (ho.block _ hlt (by rintro ⟨⟩; exact hg rfl))).trans h0
theorem range_map_getD (f : Nat → Nat) (n j : Nat) (hj : j < n) : ((List.range n).map f).getD j 0 = f j := by
  rw [List.getD_eq_getElem?_getD, List.getElem?_map, List.getElem?_range hj]
  rfl
/-- A slice reads as bytes, and lies in no block of which B says so. -/
structure Rd (w : World) (ok : Nat → Prop) (A : Option Addr) (n : Nat) (bs : List Nat) : Prop where
  len : bs.length = n
  bytes : Bytes bs
  at_ : 0 < n → ∃ ad, A = some ad ∧ ok ad.block ∧ ad.block < w.heap.size ∧ ∀ j, j < n → w.cell? (ad.add j) = some (.int .u8 (bs.getD j 0 : Nat))
theorem block_of_add (a : Addr) (n : Nat) : (a.add n).block = a.block := by unfold Addr.add; split <;> rfl
theorem add_of_add (a : Addr) (i j : Nat) : (a.add i).add j = a.add (i + j) := by
  unfold Addr.add
  by_cases hi : i = 0 <;> by_cases hj : j = 0 <;> simp [hi, hj, Nat.add_assoc]
section
variable {w w' : World} {ok ok' : Nat → Prop} {A : Option Addr} {n : Nat} {bs : List Nat}
theorem Rd.nil (w : World) (ok : Nat → Prop) (A : Option Addr) : Rd w ok A 0 [] := ⟨rfl, Bytes.nil, fun h => absurd h (by omega)⟩
theorem Rd.keep (h : Rd w ok A n bs) (hs : w.heap.size ≤ w'.heap.size) (hk : ∀ b, ok b → b < w.heap.size → w'.heap[b]? = w.heap[b]?) : Rd w' ok A n bs :=
  ⟨h.len, h.bytes, fun hn => by
    obtain ⟨ad, e, ho, hb, hc⟩ := h.at_ hn
    refine ⟨ad, e, ho, by omega, fun j hj => ?_⟩
    rw [World.cell?_of_block (w := w) (by rw [block_of_add]; exact hk _ ho hb)]
    exact hc j hj⟩
theorem Rd.kept (h : Rd w ok A n bs) (hb : Below w.heap.size w w') : Rd w' ok A n bs := h.keep hb.size fun b _ h => hb.block b h
theorem Rd.imp (h : Rd w ok A n bs) (hi : ∀ b, b < w.heap.size → ok b → ok' b) : Rd w ok' A n bs :=
  ⟨h.len, h.bytes, fun hn => by
    obtain ⟨ad, e, ho, hb, hc⟩ := h.at_ hn
    exact ⟨ad, e, hi _ hb ho, hb, hc⟩⟩
theorem Rd.cut {cap k : Nat} (h : Rd w ok A n bs) (hk : k ≤ n) (hc : n ≤ cap) : Rd w ok (if cap = k then A else A.map (·.add k)) (n - k) (bs.drop k) := by
  refine ⟨by rw [List.length_drop, h.len], h.bytes.drop k, fun hn => ?_⟩
  obtain ⟨ad, rfl, ho, hb, hcell⟩ := h.at_ (by omega)
  rw [if_neg (by omega)]
  refine ⟨ad.add k, rfl, by rw [block_of_add]; exact ho, by rw [block_of_add]; exact hb, fun j hj => ?_⟩
  rw [add_of_add, hcell _ (by omega)]
  simp [List.getD_eq_getElem?_getD]
/-- As the laws of the library ask it. -/
theorem Rd.cells (h : Rd w ok A n bs) (k : Nat) {ad : Addr} (hA : A = some ad) : ∀ j v, (vals .u8 (bs.take k))[j]? = some v → w.cell? (ad.add j) = some v := fun j v hv => by
  rw [vals_get] at hv
  have hj : j < (bs.take k).length := by
    rcases Nat.lt_or_ge j (bs.take k).length with h1 | h1
    · exact h1
    · rw [List.getElem?_eq_none h1] at hv; cases hv
  have hj' : j < bs.length := by simp at hj; omega
  obtain ⟨ad', e, _, _, hc⟩ := h.at_ (by have := h.len; omega)
  obtain rfl : ad = ad' := Option.some.inj (hA.symm.trans e)
  rw [hc j (by rw [← h.len]; exact hj')]
  rw [← hv, List.getElem?_eq_getElem hj]
  simp [hj']
end
end Go.Proofs.YtbbdnlcjjcmllaaDoor
