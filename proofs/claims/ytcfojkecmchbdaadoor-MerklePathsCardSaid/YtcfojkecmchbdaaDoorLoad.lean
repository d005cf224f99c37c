/- Contract of sha256.load: the sixteen words of a block of 64 bytes. Condition: the elements are bytes. -/
import Derived.Test.YtcfojkecmchbdaaDoorProc
import Derived.Test.YtcfojkecmchbdaaDoorOps
namespace Go.Proofs.YtcfojkecmchbdaaDoor
open Go Go.RowKit Go.Bul
/-- What a word holds after k of its bytes. -/
def pw (b : List Nat) (j : Nat) : Nat → Nat
  | 0 => 0
  | k + 1 => pw b j k * 256 + b.getD (4 * j + k) 0
theorem pw_lt {b : List Nat} (hb : Bytes b) (j : Nat) : ∀ k, pw b j k < 256 ^ k
  | 0 => by simp [pw]
  | k + 1 => by
    have h1 := pw_lt hb j k
    have h2 := hb.getD (4 * j + k)
    rw [pw, Nat.pow_succ]
    omega
theorem pw_four (b : List Nat) (j : Nat) : pw b j 4 = word b j := by simp [pw, word]
def LoadInv (b : List Nat) (i : Nat) (l : List Nat) : Prop := l.length = 16 ∧ ∀ j, j < 16 → l.getD j 0 = pw b j (min (i - 4 * j) 4)
theorem LoadInv.start (b : List Nat) : LoadInv b 0 (List.replicate 16 0) := by
  refine ⟨by simp, fun j hj => ?_⟩
  rw [List.getD_eq_getElem?_getD, List.getElem?_replicate, if_pos hj]
  simp [pw]
theorem LoadInv.next {b : List Nat} {i : Nat} {l : List Nat} (h : LoadInv b i l) (hi : i < 64) : LoadInv b (i + 1) (l.set (i / 4) (l.getD (i / 4) 0 * 256 + b.getD i 0)) := by
  refine ⟨by simp [h.1], fun j hj => ?_⟩
  rw [getD_set _ _ _ _ (by rw [h.1]; omega)]
  split
  · rename_i e
    subst e
    rw [h.2 _ (by omega), show min (i + 1 - 4 * (i / 4)) 4 = min (i - 4 * (i / 4)) 4 + 1 by omega, pw, show 4 * (i / 4) + min (i - 4 * (i / 4)) 4 = i by omega]
  · rename_i e
    rw [h.2 j hj, show min (i + 1 - 4 * j) 4 = min (i - 4 * j) 4 by omega]
theorem or_byte (x c : Nat) (hx : x * 256 < 4294967296) (hc : c < 256) (q : Int) (hq : q = (x : Int) * 256) : bits .or .u32 q ↑c = ((x * 256 + c : Nat) : Int) := by
  have h : q = ((x * 256 : Nat) : Int) := by rw [hq]; omega
  rw [h, u32_or_nat _ _ hx (by omega)]
  have := Nat.shiftLeft_add_eq_or_of_lt (i := 8) (b := c) (by omega) x
  rw [Nat.shiftLeft_eq] at this
  rw [← this]
structure LoadW (W : World) (b : List Nat) (i : Nat) (w : World) : Prop where
  win : ∃ l, LoadInv b i l ∧ Blk w (W.heap.size + 1 + 1) 125 (cellsOf .u32 l)
  r : ∃ l : List Nat, l.length = 16 ∧ Blk w (W.heap.size + 1) 125 (cellsOf .u32 l)
  old : Below W.heap.size W w
theorem zero_w16 : (Tryd.prog.info? 125).map (·.zero) = some (some (.agg (cellsOf .u32 (List.replicate 16 0)))) := by kernel_rfl
theorem size_w16 : (Tryd.prog.info? 125).map (·.size) = some 16 := by kernel_rfl
theorem size_b64 : (Tryd.prog.info? 118).map (·.size) = some 64 := by kernel_rfl
theorem size_u8 : (Tryd.prog.info? 5).map (·.size) = some 1 := by kernel_rfl
theorem size_u32 : (Tryd.prog.info? 80).map (·.size) = some 1 := by kernel_rfl
set_option maxHeartbeats 1000000 in
theorem load_any (b : List Nat) (w : World) (hb : Bytes b) (hl : b.length = 64) :
    Calls Tryd.prog 65 #[.agg (cellsOf .u8 b)] w fun e w' => e = .returned (.agg (cellsOf .u32 ((List.range 16).map (word b)))) ∧ Below w.heap.size w w' := by
  have HL := Lib.hid hl
  clear hl
  go_enter Tryd.func65, Tryd.ntmps65
  go_wp2_with (first
    | (with_reducible refine wpList_alloc_zero rfl 125 rfl _ zero_w16 ?_)
    | (with_reducible refine wpList_load_blk rfl 118 (.tmp 1) rfl w.heap.size rfl _ _ 64 _ (((Blk.new' w _ _ _ rfl).alloc _).alloc _) Tryd.underlying118 rfl size_b64 ((cellsOf_size _ _).trans HL.out) ?_))
  go_loopw [7] (fun i wr => ∃ k : Nat, k ≤ 64 ∧ i = .int .i64 k ∧ LoadW w b k wr) (fun i _ => 64 - (intOf i).toNat)
  case atStart =>
    refine ⟨0, by omega, rfl, ⟨_, LoadInv.start b, Blk.new' _ _ _ _ (by simp)⟩, ⟨_, by simp, (Blk.new' _ _ (cellsOf .u32 (List.replicate 16 0)) _ (by simp)).alloc _⟩, ?_⟩
    repeat' (first | with_reducible exact Below.refl _ _ | with_reducible assumption | with_reducible refine Below.setCell ?_ ?_ _ | with_reducible refine below_drewN ?_ _ | with_reducible refine Below.drew ?_ | with_reducible refine Below.alloc ?_ ?_ _)
    all_goals first | (simp; done) | (simp; omega) | omega
  case round =>
    obtain ⟨k, hk, rfl, hI⟩ := hrel
    obtain ⟨⟨l, hl, hW⟩, ⟨lr, hlr, hR⟩, hold⟩ := hI
    by_cases hlt : k < 64
    · obtain ⟨c, hc⟩ : ∃ c, c = b.getD k 0 := ⟨_, rfl⟩
      obtain ⟨x, hx⟩ : ∃ x, x = l.getD (k / 4) 0 := ⟨_, rfl⟩
      obtain ⟨j, hj⟩ : ∃ j, j = k / 4 := ⟨_, rfl⟩
      have ix : ∀ W, (Instr.index 118 (.agg (cellsOf .u8 b)) (.int .i64 (k : Nat))).run Tryd.prog W = .ok (.int .u8 (c : Nat)) W := fun W => by
        rw [hc]; exact run_index_num Tryd.underlying118 Tryd.underlying5 rfl size_u8 b k HL.out hlt W
      have hc' : c < 256 := by rw [hc]; exact hb.getD _
      have hx' : x * 256 < 4294967296 := by
        rw [hx, hl.2 _ (by omega)]
        have := pw_lt hb (k / 4) (min (k - 4 * (k / 4)) 4)
        have h3 : min (k - 4 * (k / 4)) 4 ≤ 3 := by omega
        have := Nat.pow_le_pow_right (n := 256) (by omega) h3
        omega
      have ej : (k : Int) / 4 = (j : Int) := by omega
      have bj : (j : Int) < 16 := by omega
      have cj : wr.cell? ⟨w.heap.size + 1 + 1, j, none⟩ = some (.int .u32 (x : Nat)) := by rw [hW.num (by rw [hl.1]; omega), hj, hx]
      have fj : wr.frozen? ⟨w.heap.size + 1 + 1, j, none⟩ = false := hW.free _
      have hor := or_byte x c hx' hc' _ rfl
      have H := Lib.hid (And.intro hc (And.intro hx hj))
      clear hc hx hj
      go_wp2_with fail
      go_roundw
      case measure => simp [intOf]; omega
      obtain ⟨hc, hx, hj⟩ := H.out
      refine ⟨k + 1, by omega, by go_num, ⟨_, hl.next hlt, ?_⟩, ⟨lr, hlr, hR.far (by dsimp only; omega) _⟩, hold.setCell (by dsimp only; omega) _⟩
      rw [← hj, ← hc, ← cellsOf_set, show l.getD j 0 = x by rw [hx, hj]]
      exact hW.set _ _
    · obtain rfl : k = 64 := by omega
      have hlast : l = (List.range 16).map (word b) := by
        apply List.ext_getElem (by simp [hl.1])
        intro i h1 h2
        have hi : i < 16 := by rw [hl.1] at h1; exact h1
        have := hl.2 i hi
        rw [show min (64 - 4 * i) 4 = 4 by omega, pw_four] at this
        simpa [h1] using this
      rw [hlast] at hW
      go_wp2_with (first
        | (with_reducible refine wpList_load_blk rfl 125 (.tmp 3) rfl _ rfl _ _ 16 _ hW Tryd.underlying125 rfl size_w16 (by simp) ?_)
        | ((with_reducible refine wpList_store_blk rfl 125 (.tmp 2) (.tmp 23) rfl _ rfl _ rfl _ _ 16 hR size_w16 (by simp) (by simp [hlr]) (vals_one _ _) rfl ?_); intro w2 hw2))
      exact bodyPost_ret (results_cell_row rfl _ _ (w.heap.size + 1) _ _ _ _ rfl (by rw [hw2]; exact hR.row _) Tryd.underlying125 rfl (by rw [size_w16]; simp)) rfl ⟨rfl, by rw [hw2]; exact below_setRow hold (by omega) _⟩
end Go.Proofs.YtcfojkecmchbdaaDoor
