/- The walk of bulletinlaw05.Sha256Parse. -/
import Derived.Test.YtcdabngkpocnbaaDoorTxt
namespace Go.Proofs.YtcdabngkpocnbaaDoor
open Go Go.RowKit Go.Bul
theorem zero_eq (z : List Nat) (hz : z = List.replicate 32 0) : ∀ W, (Op.equalIn 10000 25 (.agg (cellsOf .u8 z)) (.agg #[.int .u8 0, .int .u8 0, .int .u8 0, .int .u8 0, .int .u8 0, .int .u8 0, .int .u8 0, .int .u8 0, .int .u8 0, .int .u8 0, .int .u8 0, .int .u8 0, .int .u8 0, .int .u8 0, .int .u8 0, .int .u8 0, .int .u8 0, .int .u8 0, .int .u8 0, .int .u8 0, .int .u8 0, .int .u8 0, .int .u8 0, .int .u8 0, .int .u8 0, .int .u8 0, .int .u8 0, .int .u8 0, .int .u8 0, .int .u8 0, .int .u8 0, .int .u8 0])).run Tryd.prog W = .ok true W := fun W => by
  have hl : z.length = 32 := by rw [hz]; rfl
  have := eq_dig z z hl hl W
  rw [show (Value.agg #[.int .u8 0, .int .u8 0, .int .u8 0, .int .u8 0, .int .u8 0, .int .u8 0, .int .u8 0, .int .u8 0, .int .u8 0, .int .u8 0, .int .u8 0, .int .u8 0, .int .u8 0, .int .u8 0, .int .u8 0, .int .u8 0, .int .u8 0, .int .u8 0, .int .u8 0, .int .u8 0, .int .u8 0, .int .u8 0, .int .u8 0, .int .u8 0, .int .u8 0, .int .u8 0, .int .u8 0, .int .u8 0, .int .u8 0, .int .u8 0, .int .u8 0, .int .u8 0]) = .agg (cellsOf .u8 z) by rw [hz]; rfl, this]
  simp
set_option maxHeartbeats 1000000 in
/-- What the law does with a text t of at most 200 bytes, in words. -/
theorem parsew_no (t : ByteArray) (w : World) (ht : t.size ≤ 200) (hT : Tab w) (v : Nat) (hv : (64 < t.size ∧ v = 5) ∨ (t.size < 64 ∧ v = 4) ∨ (t.size = 64 ∧ ¬ IsHex (nums t) ∧ v = 3)) :
    Calls Tryd.prog 10 #[.string t] w fun e w' => e = .returned (.bool true) ∧ Below w.heap.size w w' := by
  have HT := Lib.hid hT
  obtain ⟨z, hz⟩ : ∃ z, z = List.replicate 32 0 := ⟨_, rfl⟩
  have hp := parse_no t w (by omega) v hv
  rw [← hz] at hp
  have HP := Lib.hid hp
  have ZE := Lib.hid (zero_eq z hz)
  have ZL := Lib.hid (show z.length = 32 by rw [hz]; simp)
  have bs : (t.size : Int) ≤ 200 := by omega
  clear hp hz hT
  rcases hv with ⟨h1, rfl⟩ | ⟨h1, rfl⟩ | ⟨h1, h2, rfl⟩
  · go_enter Tryd.func10, Tryd.ntmps10
    go_wp2_with fail
    (with_reducible refine HP.out.mono ?_)
    rintro e w1 ⟨rfl, hb1⟩
    go_wp2_with (first
      | (with_reducible refine wpList_alloc_zero rfl 25 rfl _ zero_dig ?_)
      | (refine wpList_store_blk rfl 25 (.tmp 3) (.tmp 15) rfl w1.heap.size rfl (cellsOf .u8 z) rfl 25 (cellsOf .u8 (List.replicate 32 0)) 32 (Blk.new w1 _ _) size_dig (by simp [ZL.out]) (by simp) (vals_one _ _) rfl ?_; intro w2 hw2; have HW2 := Lib.hid hw2; clear hw2))
    have d2 : Blk w2 w1.heap.size 25 (cellsOf .u8 z) := by rw [HW2.out]; exact (Blk.new w1 _ _).row _
    have k2 : Below w.heap.size w w2 := by rw [HW2.out]; exact below_setRow (hb1.alloc hb1.size _) hb1.size _
    clear hb1
    (with_reducible refine (ref_unhex_any t w2 (by omega)).mono ?_)
    rintro e w3 ⟨he3, hb3⟩
    have d3 := d2.kept hb3
    have k3 := Below.step k2 hb3
    clear d2 k2
    rcases he3 with ⟨_, A, c, rfl, _⟩ | ⟨_, rfl⟩
    · go_wp2_with fail
      (with_reducible refine (known_any w3 (HT.out.keep k3)).mono ?_)
      rintro e w4 ⟨rfl, hb4⟩
      have d4 := d3.kept hb4
      have k4 := Below.step k3 hb4
      have ze := ZE.out
      go_wp2_with (refine wpList_unguard rfl ?_; refine wpList_load_blk rfl 25 (.tmp 3) rfl w1.heap.size rfl 25 (cellsOf .u8 z) 32 _ d4 Tryd.underlying25 rfl size_dig (by simp [ZL.out]) ?_)
      go_ret
      exact ⟨rfl, k4⟩
    · go_wp2_with fail
      (with_reducible refine (known_any w3 (HT.out.keep k3)).mono ?_)
      rintro e w4 ⟨rfl, hb4⟩
      have d4 := d3.kept hb4
      have k4 := Below.step k3 hb4
      have ze := ZE.out
      go_wp2_with (refine wpList_unguard rfl ?_; refine wpList_load_blk rfl 25 (.tmp 3) rfl w1.heap.size rfl 25 (cellsOf .u8 z) 32 _ d4 Tryd.underlying25 rfl size_dig (by simp [ZL.out]) ?_)
      go_ret
      exact ⟨rfl, k4⟩
  · go_enter Tryd.func10, Tryd.ntmps10
    go_wp2_with fail
    (with_reducible refine HP.out.mono ?_)
    rintro e w1 ⟨rfl, hb1⟩
    go_wp2_with (first
      | (with_reducible refine wpList_alloc_zero rfl 25 rfl _ zero_dig ?_)
      | (refine wpList_store_blk rfl 25 (.tmp 3) (.tmp 15) rfl w1.heap.size rfl (cellsOf .u8 z) rfl 25 (cellsOf .u8 (List.replicate 32 0)) 32 (Blk.new w1 _ _) size_dig (by simp [ZL.out]) (by simp) (vals_one _ _) rfl ?_; intro w2 hw2; have HW2 := Lib.hid hw2; clear hw2))
    have d2 : Blk w2 w1.heap.size 25 (cellsOf .u8 z) := by rw [HW2.out]; exact (Blk.new w1 _ _).row _
    have k2 : Below w.heap.size w w2 := by rw [HW2.out]; exact below_setRow (hb1.alloc hb1.size _) hb1.size _
    clear hb1
    (with_reducible refine (ref_unhex_any t w2 (by omega)).mono ?_)
    rintro e w3 ⟨he3, hb3⟩
    have d3 := d2.kept hb3
    have k3 := Below.step k2 hb3
    clear d2 k2
    rcases he3 with ⟨_, A, c, rfl, _⟩ | ⟨_, rfl⟩
    · go_wp2_with fail
      (with_reducible refine (known_any w3 (HT.out.keep k3)).mono ?_)
      rintro e w4 ⟨rfl, hb4⟩
      have d4 := d3.kept hb4
      have k4 := Below.step k3 hb4
      have ze := ZE.out
      go_wp2_with (refine wpList_unguard rfl ?_; refine wpList_load_blk rfl 25 (.tmp 3) rfl w1.heap.size rfl 25 (cellsOf .u8 z) 32 _ d4 Tryd.underlying25 rfl size_dig (by simp [ZL.out]) ?_)
      go_ret
      exact ⟨rfl, k4⟩
    · go_wp2_with fail
      (with_reducible refine (known_any w3 (HT.out.keep k3)).mono ?_)
      rintro e w4 ⟨rfl, hb4⟩
      have d4 := d3.kept hb4
      have k4 := Below.step k3 hb4
      have ze := ZE.out
      go_wp2_with (refine wpList_unguard rfl ?_; refine wpList_load_blk rfl 25 (.tmp 3) rfl w1.heap.size rfl 25 (cellsOf .u8 z) 32 _ d4 Tryd.underlying25 rfl size_dig (by simp [ZL.out]) ?_)
      go_ret
      exact ⟨rfl, k4⟩
  · have H2 := Lib.hid h2
    have b1 : ¬ (64 : Int) < (t.size : Int) := by omega
    have b2 : ¬ (t.size : Int) < 64 := by omega
    clear h1 h2
    go_enter Tryd.func10, Tryd.ntmps10
    go_wp2_with fail
    (with_reducible refine HP.out.mono ?_)
    rintro e w1 ⟨rfl, hb1⟩
    go_wp2_with (first
      | (with_reducible refine wpList_alloc_zero rfl 25 rfl _ zero_dig ?_)
      | (refine wpList_store_blk rfl 25 (.tmp 3) (.tmp 15) rfl w1.heap.size rfl (cellsOf .u8 z) rfl 25 (cellsOf .u8 (List.replicate 32 0)) 32 (Blk.new w1 _ _) size_dig (by simp [ZL.out]) (by simp) (vals_one _ _) rfl ?_; intro w2 hw2; have HW2 := Lib.hid hw2; clear hw2))
    have d2 : Blk w2 w1.heap.size 25 (cellsOf .u8 z) := by rw [HW2.out]; exact (Blk.new w1 _ _).row _
    have k2 : Below w.heap.size w w2 := by rw [HW2.out]; exact below_setRow (hb1.alloc hb1.size _) hb1.size _
    clear hb1
    (with_reducible refine (ref_unhex_any t w2 (by omega)).mono ?_)
    rintro e w3 ⟨he3, hb3⟩
    have d3 := d2.kept hb3
    have k3 := Below.step k2 hb3
    clear d2 k2
    rcases he3 with ⟨h, _⟩ | ⟨_, rfl⟩
    · exact absurd h H2.out
    · go_wp2_with fail
      (with_reducible refine (known_any w3 (HT.out.keep k3)).mono ?_)
      rintro e w4 ⟨rfl, hb4⟩
      have d4 := d3.kept hb4
      have k4 := Below.step k3 hb4
      have ze := ZE.out
      go_wp2_with (refine wpList_unguard rfl ?_; refine wpList_load_blk rfl 25 (.tmp 3) rfl w1.heap.size rfl 25 (cellsOf .u8 z) 32 _ d4 Tryd.underlying25 rfl size_dig (by simp [ZL.out]) ?_)
      go_ret
      exact ⟨rfl, k4⟩
set_option maxHeartbeats 1000000 in
theorem parsew_yes (t : ByteArray) (w : World) (ht : t.size = 64) (hT : Tab w) (hx : IsHex (nums t)) :
    Calls Tryd.prog 10 #[.string t] w fun e w' => e = .returned (.bool true) ∧ Below w.heap.size w w' := by
  have HT := Lib.hid hT
  obtain ⟨z, hz⟩ : ∃ z, z = unhexs (nums t) := ⟨_, rfl⟩
  have hp := parse_yes t w ht hx
  rw [← hz] at hp
  have HP := Lib.hid hp
  have hzl : z.length = 32 := by rw [hz, unhexs, pairs_length, nums_length, ht]
  have hzb : Bytes z := by rw [hz]; exact bytes_unhexs hx
  have ZL := Lib.hid hzl
  have HZ := Lib.hid (And.intro hz hzb)
  have HX := Lib.hid hx
  have bs : (t.size : Int) ≤ 200 := by omega
  have b1 : ¬ (64 : Int) < (t.size : Int) := by omega
  have b2 : ¬ (t.size : Int) < 64 := by omega
  have h32 : t.size / 2 = 32 := by omega
  have H32 := Lib.hid h32
  have ht64 : t.size ≤ 200 := by omega
  clear hp hz hzb hT hx hzl ht h32
  go_enter Tryd.func10, Tryd.ntmps10
  go_wp2_with fail
  (with_reducible refine HP.out.mono ?_)
  rintro e w1 ⟨rfl, hb1⟩
  go_wp2_with (first
    | (with_reducible refine wpList_alloc_zero rfl 25 rfl _ zero_dig ?_)
    | (refine wpList_store_blk rfl 25 (.tmp 3) (.tmp 15) rfl w1.heap.size rfl (cellsOf .u8 z) rfl 25 (cellsOf .u8 (List.replicate 32 0)) 32 (Blk.new w1 _ _) size_dig (by simp [ZL.out]) (by simp) (vals_one _ _) rfl ?_; intro w2 hw2; have HW2 := Lib.hid hw2; clear hw2))
  have d2 : Blk w2 w1.heap.size 25 (cellsOf .u8 z) := by rw [HW2.out]; exact (Blk.new w1 _ _).row _
  have k2 : Below w.heap.size w w2 := by rw [HW2.out]; exact below_setRow (hb1.alloc hb1.size _) hb1.size _
  clear hb1
  (with_reducible refine (ref_unhex_any t w2 (by omega)).mono ?_)
  rintro e w3 ⟨he3, hb3⟩
  have d3 := d2.kept hb3
  have k3 := Below.step k2 hb3
  clear d2 k2
  rcases he3 with ⟨_, A, c, rfl, hown⟩ | ⟨h, _⟩
  rotate_left
  · exact absurd HX.out h
  rw [H32.out, ← HZ.out.1] at hown
  rw [H32.out]
  obtain ⟨hrd, hc⟩ := hown.rd ZL.out.symm HZ.out.2
  have HR := Lib.hid hrd
  clear hrd hown
  go_wp2_with fail
  refine Go.Bul.wp_region_class_tail (fun w' => Below w3.heap.size w3 w') 12 (by kernel_rfl) (by kernel_rfl) (Below.drew (Below.refl _ _)) ?_
  simp only [List.take_succ_cons, List.take_zero, List.drop_succ_cons, List.drop_zero]
  refine wpQuiet_step (fun K hK => ?_)
  refine Go.Bul.quiet_some rfl ?_
  apply Exists.intro
  refine ⟨fun w' hw' => ?_, ?_⟩
  · go_simp
    exact Go.Bul.quiet_call hw' (known_any w' (HT.out.keep (Below.step k3 hw')))
  go_simp
  refine hK _ ?_
  clear hK K
  refine wpQuiet_step (fun K hK => ?_)
  refine Go.Bul.quiet_some rfl ?_
  apply Exists.intro
  refine ⟨fun w' hw' => ?_, ?_⟩
  · skip
    go_simp
    rfl
  go_simp
  refine hK _ ?_
  clear hK K
  refine wpQuiet_step (fun K hK => ?_)
  refine Go.Bul.quiet_wanted rfl ?_
  apply Exists.intro
  refine ⟨fun w' hw' => ?_, ?_⟩
  · skip
    go_simp
    rfl
  go_simp
  refine hK _ ?_
  clear hK K
  refine wpQuiet_step (fun K hK => ?_)
  refine Go.Bul.quiet_wanted rfl ?_
  apply Exists.intro
  refine ⟨fun w' hw' => ?_, ?_⟩
  · skip
    go_simp
    rfl
  go_simp
  refine hK _ ?_
  clear hK K
  refine wpQuiet_step (fun K hK => ?_)
  refine Go.Bul.quiet_some rfl ?_
  apply Exists.intro
  refine ⟨fun w' hw' => ?_, ?_⟩
  · skip
    go_simp
    rfl
  go_simp
  refine hK _ ?_
  clear hK K
  refine wpQuiet_step (fun K hK => ?_)
  refine Go.Bul.quiet_some rfl ?_
  apply Exists.intro
  refine ⟨fun w' hw' => ?_, ?_⟩
  · skip
    go_simp
    rfl
  go_simp
  refine hK _ ?_
  clear hK K
  refine wpQuiet_step (fun K hK => ?_)
  refine Go.Bul.quiet_wanted rfl ?_
  apply Exists.intro
  refine ⟨fun w' hw' => ?_, ?_⟩
  · skip
    go_simp
    rfl
  go_simp
  refine hK _ ?_
  clear hK K
  refine wpQuiet_step (fun K hK => ?_)
  refine Go.Bul.quiet_wanted rfl ?_
  apply Exists.intro
  refine ⟨fun w' hw' => ?_, ?_⟩
  · have st := (Rd.of_block (ok := fun _ => True) (d3.kept hw') HZ.out.2 trivial).str 32; rw [ZL.out] at st
    go_simp
    rfl
  go_simp
  refine hK _ ?_
  clear hK K
  refine wpQuiet_step (fun K hK => ?_)
  refine Go.Bul.quiet_wanted rfl ?_
  apply Exists.intro
  refine ⟨fun w' hw' => ?_, ?_⟩
  · skip
    go_simp
    rfl
  go_simp
  refine hK _ ?_
  clear hK K
  refine wpQuiet_step (fun K hK => ?_)
  refine Go.Bul.quiet_wanted rfl ?_
  apply Exists.intro
  refine ⟨fun w' hw' => ?_, ?_⟩
  · have st := (HR.out.kept hw').str c
    go_simp
    rfl
  go_simp
  refine hK _ ?_
  clear hK K
  refine wpQuiet_step (fun K hK => ?_)
  refine Go.Bul.quiet_wanted rfl ?_
  apply Exists.intro
  refine ⟨fun w' hw' => ?_, ?_⟩
  · skip
    go_simp
    rfl
  go_simp
  refine hK _ ?_
  clear hK K
  refine wpQuiet_step (fun K hK => ?_)
  refine Go.Bul.quiet_some rfl ?_
  apply Exists.intro
  refine ⟨fun w' hw' => ?_, ?_⟩
  · skip
    go_simp
    rfl
  go_simp
  refine hK _ ?_
  clear hK K
  refine wpQuiet_nil ?_
  intro w5 hb5
  go_wp2_with fail
  go_ret
  exact ⟨rfl, Below.step k3 hb5⟩
set_option maxHeartbeats 1000000 in
theorem parsew_any (s : ByteArray) (w : World) (hs : s.size ≤ maxLen) (hT : Tab w) :
    Calls Tryd.prog 10 #[.string s] w fun e w' => e = .returned (.bool true) ∧ Below w.heap.size w w' := by
  by_cases h2 : s.size ≤ 200
  · rcases (show 64 < s.size ∨ s.size < 64 ∨ s.size = 64 by omega) with h | h | h
    · exact parsew_no s w h2 hT 5 (.inl ⟨h, rfl⟩)
    · exact parsew_no s w h2 hT 4 (.inr (.inl ⟨h, rfl⟩))
    · by_cases hx : IsHex (nums s)
      · exact parsew_yes s w h hT hx
      · exact parsew_no s w h2 hT 3 (.inr (.inr ⟨h, hx, rfl⟩))
  · have bs : (200 : Int) < (s.size : Int) := by omega
    unfold maxLen at hs
    obtain ⟨t, htd⟩ : ∃ t, t = s.extract 0 200 := ⟨_, rfl⟩
    have hts : t.size = 200 := by rw [htd]; simp; omega
    have HT := Lib.hid hT
    obtain ⟨z, hz⟩ : ∃ z, z = List.replicate 32 0 := ⟨_, rfl⟩
    have hp := parse_no t w (by omega) 5 (.inl ⟨by omega, rfl⟩)
    rw [← hz] at hp
    have HP := Lib.hid hp
    have ZE := Lib.hid (zero_eq z hz)
    have ZL := Lib.hid (show z.length = 32 by rw [hz]; simp)
    have HD := Lib.hid htd
    have ht : t.size ≤ 200 := by omega
    have b1 : (64 : Int) < (t.size : Int) := by omega
    clear hp hz hT htd hts h2
    go_enter Tryd.func10, Tryd.ntmps10
    go_wp2_with fail
    rw [← HD.out]
    (with_reducible refine HP.out.mono ?_)
    rintro e w1 ⟨rfl, hb1⟩
    clear hs bs
    go_wp2_with (first
      | (with_reducible refine wpList_alloc_zero rfl 25 rfl _ zero_dig ?_)
      | (refine wpList_store_blk rfl 25 (.tmp 3) (.tmp 15) rfl w1.heap.size rfl (cellsOf .u8 z) rfl 25 (cellsOf .u8 (List.replicate 32 0)) 32 (Blk.new w1 _ _) size_dig (by simp [ZL.out]) (by simp) (vals_one _ _) rfl ?_; intro w2 hw2; have HW2 := Lib.hid hw2; clear hw2))
    have d2 : Blk w2 w1.heap.size 25 (cellsOf .u8 z) := by rw [HW2.out]; exact (Blk.new w1 _ _).row _
    have k2 : Below w.heap.size w w2 := by rw [HW2.out]; exact below_setRow (hb1.alloc hb1.size _) hb1.size _
    clear hb1
    (with_reducible refine (ref_unhex_any t w2 (by omega)).mono ?_)
    rintro e w3 ⟨he3, hb3⟩
    have d3 := d2.kept hb3
    have k3 := Below.step k2 hb3
    clear d2 k2
    rcases he3 with ⟨_, A, c, rfl, _⟩ | ⟨_, rfl⟩
    · go_wp2_with fail
      (with_reducible refine (known_any w3 (HT.out.keep k3)).mono ?_)
      rintro e w4 ⟨rfl, hb4⟩
      have d4 := d3.kept hb4
      have k4 := Below.step k3 hb4
      have ze := ZE.out
      go_wp2_with (refine wpList_unguard rfl ?_; refine wpList_load_blk rfl 25 (.tmp 3) rfl w1.heap.size rfl 25 (cellsOf .u8 z) 32 _ d4 Tryd.underlying25 rfl size_dig (by simp [ZL.out]) ?_)
      go_ret
      exact ⟨rfl, k4⟩
    · go_wp2_with fail
      (with_reducible refine (known_any w3 (HT.out.keep k3)).mono ?_)
      rintro e w4 ⟨rfl, hb4⟩
      have d4 := d3.kept hb4
      have k4 := Below.step k3 hb4
      have ze := ZE.out
      go_wp2_with (refine wpList_unguard rfl ?_; refine wpList_load_blk rfl 25 (.tmp 3) rfl w1.heap.size rfl 25 (cellsOf .u8 z) 32 _ d4 Tryd.underlying25 rfl size_dig (by simp [ZL.out]) ?_)
      go_ret
      exact ⟨rfl, k4⟩
end Go.Proofs.YtcdabngkpocnbaaDoor
