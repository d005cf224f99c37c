/- Small lemmas: guarded operations, equality of arrays, what stays of a Hash and of rows. Contracts of onetime's isLeaf, isChain, input, hash. Conditions: a leaf from 0 to 65535; fewer than 2^40 bytes. -/
import Derived.Test.YtpigmibaeoceaaaDoorRefd
import Derived.Test.YtpigmibaeoceaaaDoorZd
import Derived.Test.YtpigmibaeoceaaaDoorZf
namespace Go.Bul
open Go
theorem quiet_wanted {P : Program} {ops : Array Oper} {C : World → Prop} {o : Oper} {a : Act} {K : Act → Prop} (hg : Region.wanted o (yielded ops a.tmps) = true)
    (h : ∃ v, (∀ w, C w → o.quietAt P a C w v) ∧ K (a.put o.dst v)) : if Region.wanted o (yielded ops a.tmps) then o.quiet P a C K else K (a.put o.dst undef) := by
  rw [if_pos hg]
  exact h
end Go.Bul
namespace Go.Proofs.YtpigmibaeoceaaaDoor
open Go Go.RowKit Go.Bul
theorem eq_b16 (l m : List Nat) (hl : l.length = 16) (hm : m.length = 16) (W : World) : (Op.equalIn 10000 22 (.agg (cellsOf .u8 l)) (.agg (cellsOf .u8 m))).run Tryd.prog W = .ok (l == m) W :=
  run_equalIn_nums W 9998 l m Tryd.underlying22 Tryd.underlying5 size_u8 hl hm
theorem self_b16 (l : List Nat) (hl : l.length = 16) (W : World) : (Op.equalIn 10000 22 (.agg (cellsOf .u8 l)) (.agg (cellsOf .u8 l))).run Tryd.prog W = .ok true W := by
  rw [eq_b16 l l hl hl]; simp
theorem HashAt.only {w w' : World} {g k : Nat} {l : List Nat} (h : HashAt w k l) (ho : Only g w w') (hne : k ≠ g) : HashAt w' k l := by
  obtain ⟨st, blk, hB, h2⟩ := h.ex
  exact ⟨h.bytes, h.size, st, blk, hB.only ho hne, h2⟩
theorem HashAt.lt {w : World} {g : Nat} {l : List Nat} (h : HashAt w g l) : g < w.heap.size := by
  obtain ⟨_, _, hB, _⟩ := h.ex
  exact hB.lt
theorem Rd.only {w w' : World} {ok : Nat → Prop} {g n : Nat} {A : Option Addr} {bs : List Nat} (h : Rd w ok A n bs) (ho : Only g w w') (hne : ∀ b, ok b → b ≠ g) : Rd w' ok A n bs :=
  h.keep ho.size fun b hb hlt => ho.block b hlt (by rintro ⟨⟩; exact hne _ hb rfl)
theorem OwnB.only {w w' : World} {base g : Nat} {v : Value} {xs : List Nat} (h : OwnB w base v xs) (ho : Only g w w') (hg : g < base) : OwnB w' base v xs :=
  World.ownsRow.kept h ho (.inr (fun he => by have := (h.block_ge he).1; omega))
/-- A Hash is left alone by an append onto a row of the call's own. -/
theorem HashAt.grown {w w' : World} {base g : Nat} {v : Value} {xs l : List Nat} (h : HashAt w g l) (hv : OwnB w base v xs) (hg : w.grownBy w' v.ownBlock) (hlt : g < base) : HashAt w' g l :=
  h.of_block (hg.block g h.lt (fun he => by have := (hv.block_ge he.symm).1; omega))
end Go.Proofs.YtpigmibaeoceaaaDoor
namespace Go.Proofs.YtpigmibaeoceaaaDoor
open Go Go.RowKit Go.Bul
def leafB (z : Int) : Bool := decide (0 ≤ z ∧ z ≤ 65535)
def chainB (z : Int) : Bool := decide (0 ≤ z ∧ z < 35)
theorem isLeaf_any (z : Int) (w : World) : Calls Tryd.prog 33 #[.int .i64 z] w fun e w' => e = .returned (.bool (leafB z)) ∧ w = w' := by
  go_enter Tryd.func33, Tryd.ntmps33
  rcases (show z < 0 ∨ (0 ≤ z ∧ z ≤ 65535) ∨ 65535 < z by omega) with h | h | h
  · have e1 : leafB z = false := by simp [leafB]; omega
    rw [e1]
    have h2 : decide (0 ≤ z) = false := by simp; omega
    go_wp2_with fail
    go_ret
    exact ⟨rfl, rfl⟩
  · have e1 : leafB z = true := by simp [leafB]; omega
    rw [e1]
    obtain ⟨h2, h3⟩ := h
    go_wp2_with fail
    go_ret
    exact ⟨rfl, rfl⟩
  · have e1 : leafB z = false := by simp [leafB]; omega
    rw [e1]
    have h2 : 0 ≤ z := by omega
    have h3 : decide (z ≤ 65535) = false := by simp; omega
    go_wp2_with fail
    go_ret
    exact ⟨rfl, rfl⟩
theorem isChain_any (z : Int) (w : World) : Calls Tryd.prog 40 #[.int .i64 z] w fun e w' => e = .returned (.bool (chainB z)) ∧ w = w' := by
  go_enter Tryd.func40, Tryd.ntmps40
  rcases (show z < 0 ∨ (0 ≤ z ∧ z < 35) ∨ 35 ≤ z by omega) with h | h | h
  · have e1 : chainB z = false := by simp [chainB]; omega
    rw [e1]
    have h2 : decide (0 ≤ z) = false := by simp; omega
    go_wp2_with fail
    go_ret
    exact ⟨rfl, rfl⟩
  · have e1 : chainB z = true := by simp [chainB]; omega
    rw [e1]
    obtain ⟨h2, h3⟩ := h
    go_wp2_with fail
    go_ret
    exact ⟨rfl, rfl⟩
  · have e1 : chainB z = false := by simp [chainB]; omega
    rw [e1]
    have h2 : 0 ≤ z := by omega
    have h3 : decide (z < 35) = false := by simp; omega
    go_wp2_with fail
    go_ret
    exact ⟨rfl, rfl⟩
theorem hash_any (bs : List Nat) (A : Option Addr) (n c : Nat) (ok : Nat → Prop) (w : World) (hr : Rd w ok A n bs) (hn : n ≤ c) (hl : n ≤ 1099511627776) (hT : Tab w) :
    Calls Tryd.prog 38 #[.slice A n c] w fun e w' => e = .returned (.agg (cellsOf .u8 (half bs))) ∧ Below w.heap.size w w' := by
  have hM := Mem.start [] w
  have HR := Lib.hid hr
  have HT := Lib.hid hT
  have hb0 := Below.refl w.heap.size w
  clear hr hT
  go_enter Tryd.func38, Tryd.ntmps38
  go_wp2_with (first | ((with_reducible refine at_load_g ?_ ?_); (· rfl); first | (refine wpList_mem_load hM rfl _ _ (by rfl) _ (by rfl) _ _ _ (by repeat (first | exact List.Mem.head _ | apply List.Mem.tail)) (by first | exact row_a16 | exact row_i35 | exact row_val | exact row_a32 | exact row_e35 | exact row_v35 | exact row_sig | exact row_evi | exact row_half | exact row_dig | exact row_i2 | exact row_i3 | exact row_b3 | exact row_h2 | exact row_pair) ?_) | (refine wpList_mem_num hM rfl _ _ (by rfl) _ _ (by rfl) _ _ _ _ (by repeat (first | exact List.Mem.head _ | apply List.Mem.tail)) (by first | exact one_u8 | exact one_int | exact one_u32 | exact one_bool | exact one_errno | exact one_u16 | exact one_sl) (by omega) ?_)) | ((with_reducible refine at_load ?_); first | (refine wpList_mem_load hM rfl _ _ (by rfl) _ (by rfl) _ _ _ (by repeat (first | exact List.Mem.head _ | apply List.Mem.tail)) (by first | exact row_a16 | exact row_i35 | exact row_val | exact row_a32 | exact row_e35 | exact row_v35 | exact row_sig | exact row_evi | exact row_half | exact row_dig | exact row_i2 | exact row_i3 | exact row_b3 | exact row_h2 | exact row_pair) ?_) | (refine wpList_mem_num hM rfl _ _ (by rfl) _ _ (by rfl) _ _ _ _ (by repeat (first | exact List.Mem.head _ | apply List.Mem.tail)) (by first | exact one_u8 | exact one_int | exact one_u32 | exact one_bool | exact one_errno | exact one_u16 | exact one_sl) (by omega) ?_)) | ((with_reducible refine at_store ?_); first | (refine wpList_mem_store hM rfl _ _ _ (by rfl) _ (by rfl) _ (by rfl) _ _ _ _ (by repeat (first | exact UpdL.head _ _ _ _ _ | apply UpdL.tail)) (by first | exact row_a16 | exact row_i35 | exact row_val | exact row_a32 | exact row_e35 | exact row_v35 | exact row_sig | exact row_evi | exact row_half | exact row_dig | exact row_i2 | exact row_i3 | exact row_b3 | exact row_h2 | exact row_pair) (by first | assumption | (simp; done) | (simp only [cellsOf_size]; first | assumption | exact half_length _ | exact split_length _ | exact firstV_length _ _ _ | exact stepV_length _ _ _ _ | exact valuesV_length _ _ _) | (simp [*]; done)) (by first | exact vals_one _ _ | exact evc_one | (simp [Value.oneCell']; done)) rfl ?_; clear hM; intro wx hM) | (refine wpList_mem_setnum hM rfl _ _ _ (by rfl) _ _ (by rfl) _ _ (by rfl) _ _ _ _ (by repeat (first | exact UpdL.head _ _ _ _ _ | apply UpdL.tail)) (by first | exact one_u8 | exact one_int | exact one_u32 | exact one_bool | exact one_errno | exact one_u16 | exact one_sl) (by omega) _ (by first | rfl | exact (Int.toNat_of_nonneg (by omega)).symm) rfl ?_; clear hM; intro wx hM)) | ((with_reducible refine at_alloc ?_); refine wpList_mem_zero hM rfl _ (by rfl) _ _ (by first | exact zero_a16 | exact zero_i35 | exact zero_i35' | exact zero_val | exact zero_a32 | exact zero_a32' | exact zero_e35 | exact zero_v35 | exact zero_sig | exact zero_evi | exact zero_half | exact zero_dig | exact zero_int | exact zero_u8 | exact zero_i2 | exact zero_i3 | exact zero_b3 | exact zero_h2 | exact zero_pair) ?_; clear hM; intro gx wx hM) | ((with_reducible refine at_box ?_); refine wpList_mem_box hM rfl _ _ (by rfl) _ (by rfl) _ (by first | exact row_a16 | exact row_i35 | exact row_val | exact row_a32 | exact row_e35 | exact row_v35 | exact row_sig | exact row_evi | exact row_half | exact row_dig | exact row_i2 | exact row_i3 | exact row_b3 | exact row_h2 | exact row_pair) (by first | assumption | (simp; done) | (simp only [cellsOf_size]; first | assumption | exact half_length _ | exact split_length _ | exact firstV_length _ _ _ | exact stepV_length _ _ _ _ | exact valuesV_length _ _ _) | (simp [*]; done)) ?_; clear hM; intro gx wx hM))
  (with_reducible refine (half_any bs A n c ok _ (HR.out.kept hM.below) hn hl (HT.out.keep hM.below)).mono ?_)
  rintro e w1 ⟨rfl, hb1⟩
  replace hM := hM.step hb1
  go_wp2_with (first | ((with_reducible refine at_load_g ?_ ?_); (· rfl); first | (refine wpList_mem_load hM rfl _ _ (by rfl) _ (by rfl) _ _ _ (by repeat (first | exact List.Mem.head _ | apply List.Mem.tail)) (by first | exact row_a16 | exact row_i35 | exact row_val | exact row_a32 | exact row_e35 | exact row_v35 | exact row_sig | exact row_evi | exact row_half | exact row_dig | exact row_i2 | exact row_i3 | exact row_b3 | exact row_h2 | exact row_pair) ?_) | (refine wpList_mem_num hM rfl _ _ (by rfl) _ _ (by rfl) _ _ _ _ (by repeat (first | exact List.Mem.head _ | apply List.Mem.tail)) (by first | exact one_u8 | exact one_int | exact one_u32 | exact one_bool | exact one_errno | exact one_u16 | exact one_sl) (by omega) ?_)) | ((with_reducible refine at_load ?_); first | (refine wpList_mem_load hM rfl _ _ (by rfl) _ (by rfl) _ _ _ (by repeat (first | exact List.Mem.head _ | apply List.Mem.tail)) (by first | exact row_a16 | exact row_i35 | exact row_val | exact row_a32 | exact row_e35 | exact row_v35 | exact row_sig | exact row_evi | exact row_half | exact row_dig | exact row_i2 | exact row_i3 | exact row_b3 | exact row_h2 | exact row_pair) ?_) | (refine wpList_mem_num hM rfl _ _ (by rfl) _ _ (by rfl) _ _ _ _ (by repeat (first | exact List.Mem.head _ | apply List.Mem.tail)) (by first | exact one_u8 | exact one_int | exact one_u32 | exact one_bool | exact one_errno | exact one_u16 | exact one_sl) (by omega) ?_)) | ((with_reducible refine at_store ?_); first | (refine wpList_mem_store hM rfl _ _ _ (by rfl) _ (by rfl) _ (by rfl) _ _ _ _ (by repeat (first | exact UpdL.head _ _ _ _ _ | apply UpdL.tail)) (by first | exact row_a16 | exact row_i35 | exact row_val | exact row_a32 | exact row_e35 | exact row_v35 | exact row_sig | exact row_evi | exact row_half | exact row_dig | exact row_i2 | exact row_i3 | exact row_b3 | exact row_h2 | exact row_pair) (by first | assumption | (simp; done) | (simp only [cellsOf_size]; first | assumption | exact half_length _ | exact split_length _ | exact firstV_length _ _ _ | exact stepV_length _ _ _ _ | exact valuesV_length _ _ _) | (simp [*]; done)) (by first | exact vals_one _ _ | exact evc_one | (simp [Value.oneCell']; done)) rfl ?_; clear hM; intro wx hM) | (refine wpList_mem_setnum hM rfl _ _ _ (by rfl) _ _ (by rfl) _ _ (by rfl) _ _ _ _ (by repeat (first | exact UpdL.head _ _ _ _ _ | apply UpdL.tail)) (by first | exact one_u8 | exact one_int | exact one_u32 | exact one_bool | exact one_errno | exact one_u16 | exact one_sl) (by omega) _ (by first | rfl | exact (Int.toNat_of_nonneg (by omega)).symm) rfl ?_; clear hM; intro wx hM)) | ((with_reducible refine at_alloc ?_); refine wpList_mem_zero hM rfl _ (by rfl) _ _ (by first | exact zero_a16 | exact zero_i35 | exact zero_i35' | exact zero_val | exact zero_a32 | exact zero_a32' | exact zero_e35 | exact zero_v35 | exact zero_sig | exact zero_evi | exact zero_half | exact zero_dig | exact zero_int | exact zero_u8 | exact zero_i2 | exact zero_i3 | exact zero_b3 | exact zero_h2 | exact zero_pair) ?_; clear hM; intro gx wx hM) | ((with_reducible refine at_box ?_); refine wpList_mem_box hM rfl _ _ (by rfl) _ (by rfl) _ (by first | exact row_a16 | exact row_i35 | exact row_val | exact row_a32 | exact row_e35 | exact row_v35 | exact row_sig | exact row_evi | exact row_half | exact row_dig | exact row_i2 | exact row_i3 | exact row_b3 | exact row_h2 | exact row_pair) (by first | assumption | (simp; done) | (simp only [cellsOf_size]; first | assumption | exact half_length _ | exact split_length _ | exact firstV_length _ _ _ | exact stepV_length _ _ _ _ | exact valuesV_length _ _ _) | (simp [*]; done)) ?_; clear hM; intro gx wx hM))
  exact bodyPost_ret (results_mem_cell hM rfl (by rfl) (by repeat (first | exact List.Mem.head _ | apply List.Mem.tail)) (by first | exact row_a16 | exact row_i35 | exact row_val | exact row_a32 | exact row_e35 | exact row_v35 | exact row_sig | exact row_evi | exact row_half | exact row_dig | exact row_i2 | exact row_i3 | exact row_b3 | exact row_h2 | exact row_pair)) rfl ⟨rfl, hM.below⟩

/-- What input returns: a row of the call's own. -/
theorem input_any (f : Nat) (leaf : Nat) (x y : Int) (w : World) (hf : f < 256) (hl : leaf ≤ 65535) (hx : x = (f : Int)) (hy : y = (leaf : Int)) :
    Calls Tryd.prog 37 #[.int .u8 x, .int .i64 y] w fun e w' => ∃ v, e = .returned v ∧ Below w.heap.size w w' ∧ OwnB w' w.heap.size v (headb f leaf) := by
  subst hy hx
  have hf' : (f : Int) < 256 := by omega
  go_enter Tryd.func37, Tryd.ntmps37
  go_wp2_with fail
  go_ret
  refine ⟨_, rfl, (Below.refl _ _).alloc (Nat.le_refl _) _, ?_⟩
  have hx : (#[Value.int IntKind.u8 (f : Nat), Value.int IntKind.u8 ((leaf : Int) / 16777216), Value.int IntKind.u8 ((leaf : Int) / 65536), Value.int IntKind.u8 ((leaf : Int) / 256), Value.int IntKind.u8 ((leaf : Int) % 256)] : Array Value) = cellsOf .u8 (headb f leaf) := by
    have e1 : (leaf : Int) / 16777216 = ((leaf / 16777216 % 256 : Nat) : Int) := by omega
    have e2 : (leaf : Int) / 65536 = ((leaf / 65536 % 256 : Nat) : Int) := by omega
    have e3 : (leaf : Int) / 256 = ((leaf / 256 % 256 : Nat) : Int) := by omega
    have e4 : (leaf : Int) % 256 = ((leaf % 256 : Nat) : Int) := by omega
    rw [e1, e2, e3, e4]
    rfl
  rw [hx]
  exact OwnB.of_block (g := w.heap.size) (Blk.new w _ _) (Nat.le_refl _) (by unfold maxLen; simp [headb])
theorem headb_length (f leaf : Nat) : (headb f leaf).length = 5 := rfl
theorem Mem.row_new {G : List Nat} {w0 w w' : World} {L : List Ent} {R : List OwnR} {v : Value} {xs : List Nat} (h : Mem G w0 L R w) (hb : Below w.heap.size w w') (ho : OwnB w' w.heap.size v xs) : Mem G w0 L (brow v xs :: R) w' := h.newRow hb ho
end Go.Proofs.YtpigmibaeoceaaaDoor
