/- The walk of bulletinlaw05.Sha256Half. -/
import Derived.Test.YtcdabngkpocnbaaDoorRefe
namespace Go.Proofs.YtcdabngkpocnbaaDoor
open Go Go.RowKit Go.Bul
set_option maxHeartbeats 400000 in
theorem halfw_any (bs : List Nat) (A : Option Addr) (n c : Nat) (w : World) (hr : Rd w (fun _ => True) A n bs) (hn : n ≤ c) (hc : c ≤ 9223372036854775807) (hT : Tab w) :
    Calls Tryd.prog 5 #[.slice A n c] w fun e w' => e = .returned (.bool true) ∧ Below w.heap.size w w' := by
  have hr' := hr.take 500
  have hcut := cut_any A n c w hn hc
  obtain ⟨n', hn'⟩ : ∃ k, k = min n 500 := ⟨_, rfl⟩
  obtain ⟨bs', hbs⟩ : ∃ l, l = bs.take 500 := ⟨_, rfl⟩
  rw [← hn', ← hbs] at hr'
  rw [← hn'] at hcut
  have hnc : n' ≤ c := by omega
  have hn5 : n' ≤ 500 := by omega
  have HR := Lib.hid hr'
  have HT := Lib.hid hT
  have HC := Lib.hid hcut
  clear hr hr' hT hn' hbs hcut hn hc
  go_enter Tryd.func5, Tryd.ntmps5
  go_wp2_with fail
  (with_reducible refine HC.out.mono ?_)
  rintro e w1 ⟨rfl, rfl⟩
  go_wp2_with fail
  (with_reducible refine (sum_any bs' A n' c (fun _ => True) w HR.out hnc (by omega) HT.out).mono ?_)
  rintro e w1 ⟨rfl, hb1⟩
  obtain ⟨d, hd⟩ : ∃ d, d = sha bs' := ⟨_, rfl⟩
  have hdl : d.length = 32 := by rw [hd, sha_length]
  have hdb : Bytes d := by rw [hd]; exact bytes_sha _
  rw [← hd]
  have HD1 := Lib.hid hd
  clear hd
  go_wp2_with fail
  (with_reducible refine (half_any bs' A n' c (fun _ => True) w1 (HR.out.kept hb1) hnc (by omega) (HT.out.keep hb1)).mono ?_)
  rintro e w2 ⟨rfl, hb2⟩
  have k2 := Below.step hb1 hb2
  obtain ⟨h, hh⟩ : ∃ h, h = half bs' := ⟨_, rfl⟩
  have hhl : h.length = 16 := by rw [hh, half_length]
  have hhb : Bytes h := by rw [hh]; exact bytes_half _
  have hdh : d.take 16 = h := by rw [HD1.out, hh]; rfl
  rw [← hh]
  have ES := Lib.hid (self_b16 h hhl)
  have HD := Lib.hid (And.intro hh hdh)
  clear hh hdh hb1 hb2
  go_wp2_with (first
    | (with_reducible refine wpList_alloc_zero rfl 25 rfl _ zero_dig ?_)
    | (with_reducible refine wpList_alloc_zero rfl 37 rfl _ zero_half ?_)
    | (refine wpList_store_blk rfl 25 (.tmp 3) (.tmp 8) rfl w2.heap.size rfl (cellsOf .u8 d) rfl 25 (cellsOf .u8 (List.replicate 32 0)) 32 ((Blk.new w2 _ _).alloc _) size_dig (by simp [hdl]) (by simp) (vals_one _ _) rfl ?_; intro w3 hw3; have HW3 := Lib.hid hw3; clear hw3; refine wpList_store_blk rfl 37 (.tmp 4) (.tmp 10) rfl (w2.heap.size + 1) (congrArg (fun n => Value.pointer (some (⟨n, 0, none⟩ : Addr))) (by simp : (w2.alloc (.cells (cellsOf .u8 (List.replicate 32 0)) 25)).heap.size = w2.heap.size + 1)) (cellsOf .u8 h) rfl 37 (cellsOf .u8 (List.replicate 16 0)) 16 (show Blk w3 (w2.heap.size + 1) 37 (cellsOf .u8 (List.replicate 16 0)) by rw [HW3.out]; exact two_blocks _ _ _ _ _ _) size_half (by simp [hhl]) (by simp) (vals_one _ _) rfl ?_; intro w4 hw4; have HW4 := Lib.hid hw4; clear hw4))
  have d3 : Blk w3 w2.heap.size 25 (cellsOf .u8 d) := by rw [HW3.out]; exact ((Blk.new w2 _ _).alloc _).row _
  have h3 : Blk w3 (w2.heap.size + 1) 37 (cellsOf .u8 (List.replicate 16 0)) := by rw [HW3.out]; exact (Blk.new' _ _ _ _ (by simp)).rowFar (by omega) _
  have k3 : Below w.heap.size w w3 := by rw [HW3.out]; exact below_setRow ((k2.alloc k2.size _).alloc (by have := k2.size; simp; omega) _) k2.size _
  have d4 : Blk w4 w2.heap.size 25 (cellsOf .u8 d) := by rw [HW4.out]; exact d3.rowFar (by omega) _
  have h4 : Blk w4 (w2.heap.size + 1) 37 (cellsOf .u8 h) := by rw [HW4.out]; exact h3.row _
  have k4 : Below w.heap.size w w4 := by rw [HW4.out]; exact below_setRow k3 (by have := k2.size; omega) _
  clear d3 h3 k3 k2
  have ha := fun W => run_arrayAt (P := Tryd.prog) W 37 5 16 (some ⟨w2.heap.size, 0, none⟩) 16 32 Tryd.underlying37 (by omega)
  refine Go.Bul.wp_region_class_tail (fun w' => Below w4.heap.size w4 w') 14 (by kernel_rfl) (by kernel_rfl) (Below.drew (Below.refl _ _)) ?_
  simp only [List.take_succ_cons, List.take_zero, List.drop_succ_cons, List.drop_zero]
  refine wpQuiet_step (fun K hK => ?_)
  refine Go.Bul.quiet_some rfl ?_
  apply Exists.intro
  refine ⟨fun w' hw' => ?_, ?_⟩
  · go_simp
    exact Go.Bul.quiet_call hw' (known_any w' (HT.out.keep (Below.step k4 hw')))
  go_simp
  refine hK _ ?_
  clear hK K
  refine wpQuiet_step (fun K hK => ?_)
  refine Go.Bul.quiet_some rfl ?_
  apply Exists.intro
  refine ⟨fun w' hw' => ?_, ?_⟩
  · skip
    go_simp
    rfl
  go_simp
  refine hK _ ?_
  clear hK K
  refine wpQuiet_step (fun K hK => ?_)
  refine Go.Bul.quiet_wanted rfl ?_
  apply Exists.intro
  refine ⟨fun w' hw' => ?_, ?_⟩
  · skip
    go_simp
    rfl
  go_simp
  refine hK _ ?_
  clear hK K
  refine wpQuiet_step (fun K hK => ?_)
  refine Go.Bul.quiet_wanted rfl ?_
  apply Exists.intro
  refine ⟨fun w' hw' => ?_, ?_⟩
  · have st := (Rd.of_block_take (ok := fun _ => True) (h4.kept hw') hhb trivial 16 (by omega)).str 16; rw [List.take_of_length_le (by omega)] at st
    go_simp
    rfl
  go_simp
  refine hK _ ?_
  clear hK K
  refine wpQuiet_step (fun K hK => ?_)
  refine Go.Bul.quiet_wanted rfl ?_
  apply Exists.intro
  refine ⟨fun w' hw' => ?_, ?_⟩
  · skip
    go_simp
    rfl
  go_simp
  refine hK _ ?_
  clear hK K
  refine wpQuiet_step (fun K hK => ?_)
  refine Go.Bul.quiet_wanted rfl ?_
  apply Exists.intro
  refine ⟨fun w' hw' => ?_, ?_⟩
  · have st := (Rd.of_block_take (ok := fun _ => True) (d4.kept hw') hdb trivial 16 (by omega)).str 32; rw [HD.out.2] at st
    go_simp
    rfl
  go_simp
  refine hK _ ?_
  clear hK K
  refine wpQuiet_step (fun K hK => ?_)
  refine Go.Bul.quiet_wanted rfl ?_
  apply Exists.intro
  refine ⟨fun w' hw' => ?_, ?_⟩
  · skip
    go_simp
    rfl
  go_simp
  refine hK _ ?_
  clear hK K
  refine wpQuiet_step (fun K hK => ?_)
  refine Go.Bul.quiet_some rfl ?_
  apply Exists.intro
  refine ⟨fun w' hw' => ?_, ?_⟩
  · skip
    go_simp
    rfl
  go_simp
  refine hK _ ?_
  clear hK K
  refine wpQuiet_step (fun K hK => ?_)
  refine Go.Bul.quiet_some rfl ?_
  apply Exists.intro
  refine ⟨fun w' hw' => ?_, ?_⟩
  · skip
    go_simp
    rfl
  go_simp
  refine hK _ ?_
  clear hK K
  refine wpQuiet_step (fun K hK => ?_)
  refine Go.Bul.quiet_wanted rfl ?_
  apply Exists.intro
  refine ⟨fun w' hw' => ?_, ?_⟩
  · exact Go.Bul.quietAt_load 37 (.tmp 4) rfl (w2.heap.size + 1) 0 rfl 37 _ 16 _ (h4.kept hw') Tryd.underlying37 rfl size_half (by simp [hhl]) (cellsOf .u8 h) (cellsOf_whole _ _ _ hhl)
  go_simp
  refine hK _ ?_
  clear hK K
  refine wpQuiet_step (fun K hK => ?_)
  refine Go.Bul.quiet_wanted rfl ?_
  apply Exists.intro
  refine ⟨fun w' hw' => ?_, ?_⟩
  · skip
    go_simp
    rfl
  go_simp
  refine hK _ ?_
  clear hK K
  refine wpQuiet_step (fun K hK => ?_)
  refine Go.Bul.quiet_wanted rfl ?_
  apply Exists.intro
  refine ⟨fun w' hw' => ?_, ?_⟩
  · go_simp
    exact Go.Bul.quiet_call hw' (((ref_half bs' A n' c (fun _ => True) w' (HR.out.kept (Below.step k4 hw')) (by omega)).mono (fun _ _ h => ⟨h.1.trans (by rw [← HD.out.1]), h.2⟩)))
  go_simp
  refine hK _ ?_
  clear hK K
  refine wpQuiet_step (fun K hK => ?_)
  refine Go.Bul.quiet_wanted rfl ?_
  apply Exists.intro
  refine ⟨fun w' hw' => ?_, ?_⟩
  · have es := ES.out
    go_simp
    rfl
  go_simp
  refine hK _ ?_
  clear hK K
  refine wpQuiet_step (fun K hK => ?_)
  refine Go.Bul.quiet_some rfl ?_
  apply Exists.intro
  refine ⟨fun w' hw' => ?_, ?_⟩
  · skip
    go_simp
    rfl
  go_simp
  refine hK _ ?_
  clear hK K
  refine wpQuiet_nil ?_
  intro w5 hb5
  go_wp2_with fail
  go_ret
  exact ⟨rfl, Below.step k4 hb5⟩
end Go.Proofs.YtcdabngkpocnbaaDoor
