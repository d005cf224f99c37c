/- The walk of bulletinlaw05.Sha256Sum. -/
import Derived.Test.YtcdabngkpocnbaaDoorRefe
namespace Go.Proofs.YtcdabngkpocnbaaDoor
open Go Go.RowKit Go.Bul
theorem sumw_any (bs : List Nat) (A : Option Addr) (n c : Nat) (w : World) (hr : Rd w (fun _ => True) A n bs) (hn : n ≤ c) (hc : c ≤ 9223372036854775807) (hT : Tab w) :
    Calls Tryd.prog 3 #[.slice A n c] w fun e w' => e = .returned (.bool true) ∧ Below w.heap.size w w' := by
  have hr' := hr.take 500
  have hcut := cut_any A n c w hn hc
  obtain ⟨n', hn'⟩ : ∃ k, k = min n 500 := ⟨_, rfl⟩
  obtain ⟨bs', hbs⟩ : ∃ l, l = bs.take 500 := ⟨_, rfl⟩
  rw [← hn', ← hbs] at hr'
  rw [← hn'] at hcut
  have hnc : n' ≤ c := by omega
  have hn5 : n' ≤ 500 := by omega
  have HR := Lib.hid hr'
  have HT := Lib.hid hT
  have HC := Lib.hid hcut
  clear hr hr' hT hn' hbs hcut hn hc
  go_enter Tryd.func3, Tryd.ntmps3
  go_wp2_with fail
  (with_reducible refine HC.out.mono ?_)
  rintro e w1 ⟨rfl, rfl⟩
  have st := HR.out.str c
  go_wp2_with fail
  clear st
  (with_reducible refine (sum_any bs' A n' c (fun _ => True) w HR.out hnc (by omega) HT.out).mono ?_)
  rintro e w1 ⟨rfl, hb1⟩
  obtain ⟨d, hd⟩ : ∃ d, d = sha bs' := ⟨_, rfl⟩
  have hdl : d.length = 32 := by rw [hd, sha_length]
  rw [← hd]
  have HD := Lib.hid hd
  have eqs := self_b32 d hdl
  have ES := Lib.hid eqs
  clear hd eqs
  go_wp2_with (first
    | (with_reducible refine wpList_alloc_zero rfl 25 rfl _ zero_dig ?_)
    | (refine wpList_store_blk rfl 25 (.tmp 4) (.tmp 10) rfl w1.heap.size rfl (cellsOf .u8 d) rfl 25 (cellsOf .u8 (List.replicate 32 0)) 32 (Blk.new w1 _ _) size_dig (by simp [hdl]) (by simp) (vals_one _ _) rfl ?_; intro w2 hw2; have HW2 := Lib.hid hw2; clear hw2))
  have hB : Blk w2 w1.heap.size 25 (cellsOf .u8 d) := by rw [HW2.out]; exact (Blk.new w1 _ _).row _
  have k2 : Below w.heap.size w w2 := by rw [HW2.out]; exact below_setRow (hb1.alloc hb1.size _) hb1.size _
  have hb2 := hB
  refine Go.Bul.wp_region_class_tail (fun w' => Below w2.heap.size w2 w') 13 (by kernel_rfl) (by kernel_rfl) (Below.drew (Below.refl _ _)) ?_
  simp only [List.take_succ_cons, List.take_zero, List.drop_succ_cons, List.drop_zero]
  refine wpQuiet_step (fun K hK => ?_)
  refine Go.Bul.quiet_some rfl ?_
  apply Exists.intro
  refine ⟨fun w' hw' => ?_, ?_⟩
  · go_simp
    exact Go.Bul.quiet_call hw' (known_any w' (HT.out.keep (Below.step k2 hw')))
  go_simp
  refine hK _ ?_
  clear hK K
  refine wpQuiet_step (fun K hK => ?_)
  refine Go.Bul.quiet_some rfl ?_
  apply Exists.intro
  refine ⟨fun w' hw' => ?_, ?_⟩
  · skip
    go_simp
    rfl
  go_simp
  refine hK _ ?_
  clear hK K
  refine wpQuiet_step (fun K hK => ?_)
  refine Go.Bul.quiet_wanted rfl ?_
  apply Exists.intro
  refine ⟨fun w' hw' => ?_, ?_⟩
  · exact Go.Bul.quietAt_load 25 (.tmp 4) rfl w1.heap.size 0 rfl 25 _ 32 _ (hB.kept hw') Tryd.underlying25 rfl size_dig (by simp [hdl]) (cellsOf .u8 d) (cellsOf_whole _ _ _ hdl)
  go_simp
  refine hK _ ?_
  clear hK K
  refine wpQuiet_step (fun K hK => ?_)
  refine Go.Bul.quiet_wanted rfl ?_
  apply Exists.intro
  refine ⟨fun w' hw' => ?_, ?_⟩
  · skip
    go_simp
    rfl
  go_simp
  refine hK _ ?_
  clear hK K
  refine wpQuiet_step (fun K hK => ?_)
  refine Go.Bul.quiet_wanted rfl ?_
  apply Exists.intro
  refine ⟨fun w' hw' => ?_, ?_⟩
  · go_simp
    exact Go.Bul.quiet_call hw' (((ref_sum bs' A n' c (fun _ => True) w' (HR.out.kept (Below.step k2 hw')) (by omega)).mono (fun _ _ h => ⟨h.1.trans (by rw [← HD.out]), h.2⟩)))
  go_simp
  refine hK _ ?_
  clear hK K
  refine wpQuiet_step (fun K hK => ?_)
  refine Go.Bul.quiet_wanted rfl ?_
  apply Exists.intro
  refine ⟨fun w' hw' => ?_, ?_⟩
  · have es := ES.out
    go_simp
    rfl
  go_simp
  refine hK _ ?_
  clear hK K
  refine wpQuiet_step (fun K hK => ?_)
  refine Go.Bul.quiet_some rfl ?_
  apply Exists.intro
  refine ⟨fun w' hw' => ?_, ?_⟩
  · skip
    go_simp
    rfl
  go_simp
  refine hK _ ?_
  clear hK K
  refine wpQuiet_step (fun K hK => ?_)
  refine Go.Bul.quiet_some rfl ?_
  apply Exists.intro
  refine ⟨fun w' hw' => ?_, ?_⟩
  · skip
    go_simp
    rfl
  go_simp
  refine hK _ ?_
  clear hK K
  refine wpQuiet_step (fun K hK => ?_)
  refine Go.Bul.quiet_wanted rfl ?_
  apply Exists.intro
  refine ⟨fun w' hw' => ?_, ?_⟩
  · skip
    go_simp
    rfl
  go_simp
  refine hK _ ?_
  clear hK K
  refine wpQuiet_step (fun K hK => ?_)
  refine Go.Bul.quiet_wanted rfl ?_
  apply Exists.intro
  refine ⟨fun w' hw' => ?_, ?_⟩
  · have st := (HR.out.kept (Below.step k2 hw')).str c
    go_simp
    rfl
  go_simp
  refine hK _ ?_
  clear hK K
  refine wpQuiet_step (fun K hK => ?_)
  refine Go.Bul.quiet_wanted rfl ?_
  apply Exists.intro
  refine ⟨fun w' hw' => ?_, ?_⟩
  · skip
    go_simp
    rfl
  go_simp
  refine hK _ ?_
  clear hK K
  refine wpQuiet_step (fun K hK => ?_)
  refine Go.Bul.quiet_wanted rfl ?_
  apply Exists.intro
  refine ⟨fun w' hw' => ?_, ?_⟩
  · skip
    go_simp
    rfl
  go_simp
  refine hK _ ?_
  clear hK K
  refine wpQuiet_step (fun K hK => ?_)
  refine Go.Bul.quiet_some rfl ?_
  apply Exists.intro
  refine ⟨fun w' hw' => ?_, ?_⟩
  · skip
    go_simp
    rfl
  go_simp
  refine hK _ ?_
  clear hK K
  refine wpQuiet_nil ?_
  intro w3 hb3
  go_wp2_with fail
  go_ret
  exact ⟨rfl, Below.step k2 hb3⟩
end Go.Proofs.YtcdabngkpocnbaaDoor
