/- bulletinlaw08.SignerVerify returns true for every height, root, digest and signature and leaves it as it was (the card). Conditions: the card's own. -/
import Derived.Test.YtdnnjgjaffkdfaaDoorSfa
import Derived.Test.YtdnnjgjaffkdfaaDoorSrb
namespace Go.Proofs.YtdnnjgjaffkdfaaDoor.signerVerify
open Go Go.RowKit Go.WideShapes Go.ChangeShapes Go.ChangeAt Go.Bul
theorem readable : ∀ t ∈ Tryd.f3.params.toList, Tryd.prog.readableRec t = true ∧ t < Tryd.prog.types.size := by
  rw [Tryd.params3]
  intro t ht
  have ht2 : t = 22 ∨ t = 26 ∨ t = 3 := by
    simp at ht
    first | omega | (rcases ht with h | h | h | h <;> simp [h]) | (rcases ht with h | h | h <;> simp [h]) | (rcases ht with h | h <;> simp [h])
  rcases ht2 with rfl | rfl | rfl
  all_goals exact ⟨by kernel_rfl, of_decide_eq_true (by kernel_rfl)⟩
set_option maxRecDepth 100000 in
theorem contract (H : Type) (enc : TypeId × Value → H) (W : World) (base : Nat) (args : Array Value) (ds gs : List (DataW H)) (before : List MemPlace)
    (hval : ∀ (j : Nat) t v, Tryd.f3.params[j]? = some t → args[j]? = some v → Value.okWide Tryd.prog W .any base t v)
    (hW : DataW.Whole enc Tryd.prog Tryd.f3.params.toList Rows.signerVerifySpec.vars false W args.toList ds gs before) (hL : laidMetH Tryd.prog Rows.signerVerifyRow.laid W) :
    Calls Tryd.prog 3 args W fun e W' => ∃ v, e = .returned v ∧ Rows.signerVerifySpec.post enc Tryd.prog Tryd.f3 false true false false W args v W' := by
  have hW' := hW
  obtain ⟨p, q, hA0, hV, rfl, hfz, hnd⟩ := hW
  have hA : DataW.TrodAll enc Tryd.prog W 0 (fun _ => true) true Tryd.f3.params.toList args.toList ds p := hA0
  have hlt := fun q (hq : q ∈ p ++ _) => hW'.lt q hq
  rw [Tryd.params3] at hA hval
  obtain ⟨v0, vs0, d0, ds0, p0, q0, hargs, rfl, rfl, h0, r0⟩ := trodAll_cons hA
  obtain ⟨v1, vs1, d1, ds1, p1, q1, rfl, rfl, rfl, h1, r1⟩ := trodAll_cons r0
  obtain ⟨v2, vs2, d2, ds2, p2, q2, rfl, rfl, rfl, h2, r2⟩ := trodAll_cons r1
  obtain ⟨v3, vs3, d3, ds3, p3, q3, rfl, rfl, rfl, h3, r3⟩ := trodAll_cons r2
  obtain ⟨rfl, rfl, rfl⟩ := trodAll_nil r3
  obtain rfl : args = #[v0, v1, v2, v3] := by cases args; simp_all
  obtain ⟨rfl, rfl⟩ := trodVars_none hV
  obtain ⟨z0, rfl, hz0⟩ := int_arg Tryd.underlying3 (hval 0 3 v0 rfl rfl) h0
  obtain ⟨bs1, rfl, hl1, hb1⟩ := arr_arg Tryd.underlying22 Tryd.underlying5 cells_u8 (by kernel_rfl) (hval 1 22 v1 rfl rfl) h1
  obtain ⟨bs2, rfl, hl2, hb2⟩ := arr_arg Tryd.underlying22 Tryd.underlying5 cells_u8 (by kernel_rfl) (hval 2 22 v2 rfl rfl) h2
  obtain ⟨lf3, ch3, B3, m3, d3, pa3, rfl, hm3, hd3, hs3⟩ := sig_arg (hval 3 26 v3 rfl rfl) h3
  have walk := sverify_row z0 bs1 bs2 lf3 ch3 B3 m3 d3 pa3 W hl1 hb1 hl2 hb2 hs3 (tab_of2 hL) (alp_of2 hL)
  refine walk.mono fun e W' ⟨he, hb⟩ => ?_
  subst he
  exact ⟨_, rfl, post_of_below (pv := []) hW' (fun _ _ _ => trodAll_cons_mk (shut_bool Tryd.underlying4 _) trodAll_mk0)
    (fun sp hsp => all_stay laid_book readable hA0 (fun p hp => same_of_below hb p (hlt p (List.mem_append_left _ hp))) (fun p hp => hsp p (List.mem_append_left _ hp))) (fun _ _ => rfl) (by simp)
    hb (ok_one (by kernel_rfl) rfl (okWide_bool_mk Tryd.underlying4 _))⟩
def wit : Array Value := #[.int .i64 0, .agg (cellsOf .u8 (List.replicate 16 0)), .agg (cellsOf .u8 (List.replicate 16 0)), .agg ((Value.int .i64 0 :: (List.replicate 560 (.int .u8 0) ++ [.slice Option.none 0 0])).toArray)]
def wread {H : Type} : List (DataW H) := [.lit (.int .i64 0), .agg (List.replicate 16 (.lit (.int .u8 0))), .agg (List.replicate 16 (.lit (.int .u8 0))), .agg [.lit (.int .i64 0), .agg (List.replicate 35 (.agg (List.replicate 16 (.lit (.int .u8 0))))), .nil]]
theorem laid_met (os : Os) : laidMet Tryd.prog Rows.signerVerifyRow.laid ((laidWorld2 os).forCall (fun _ _ => 0) ⟨#[], wit, []⟩).memory :=
  laidMet_of_run' 8 (by kernel_rfl) (by kernel_rfl)
theorem reads (os : Os) {H : Type} (enc : TypeId × Value → H) : ∃ places, DataW.whole enc Tryd.prog ((laidWorld2 os).forCall (fun _ _ => 0) ⟨#[], wit, []⟩).memory Tryd.f3.params.toList Rows.signerVerifySpec.vars false wit.toList 8 = some (wread, [], places) :=
  ⟨[], by kernel_rfl⟩
set_option maxRecDepth 100000 in
theorem lifted (os : Os) (started : os.Started) (H : Type) (enc : TypeId × Value → H) (F : Stop.Interp) :
    ReturnsInHanded {} Tryd.checked os 3 .any ((OpenSpec.ofChange Rows.signerVerifySpec).preRow enc Tryd.prog Tryd.f3 Rows.signerVerifyRow.domain false Rows.signerVerifyRow.laid) (((OpenSpec.ofChange Rows.signerVerifySpec).at F).post enc Tryd.prog Tryd.f3 false true false false) := by
  obtain ⟨places, hx⟩ := reads os enc
  refine returnsInHanded_of_row (C := Tryd.checked) (s := OpenSpec.ofChange Rows.signerVerifySpec) own started (by kernel_rfl) Tryd.func3
    (witness_row_at (enc := enc) (C := Tryd.checked) false (laidWorld2 os) wit rfl (by kernel_rfl) (by kernel_rfl) (by kernel_rfl)
      (OpenSpec.preRow_of_cond 8 hx (by kernel_rfl) (fun k hk => by cases hk) (by kernel_rfl) (laid_met os))) ?_
  intro W base args ds gs before hval hW _ _ _ hL _ _
  exact contract H enc W base args ds gs before hval hW hL
theorem said : Rows.SignerVerifySaid :=
  OpenClaim.holds_of_cond 3 Tryd.f3 rfl rfl rfl rfl rfl rfl rfl ⟨rfl, rfl, rfl, rfl, rfl⟩ rfl rfl rfl rfl rfl (by kernel_rfl) Tryd.func3 (by kernel_rfl)
    (of_decide_eq_true (by kernel_rfl)) (by unfold Func.isWrapper; first | (rw [if_pos (by decide +kernel)]; kernel_rfl) | (rw [if_neg (by decide +kernel)]; exact ⟨rfl, rfl⟩))
    (fun os started H enc _ F => by rw [OpenClaim.pre_eq_preRow]; exact lifted os started H enc F)
theorem plain (f : FuncId) (fn : Func) (hf : Tryd.pinned.checked.prog.funcNamed "bulletin/bulletinlaw08.SignerVerify" = some f) (hfn : Tryd.pinned.checked.prog.funcs[f]? = some fn) :
    false = Tryd.pinned.checked.prog.looks [] ∧ ∀ (j : Nat) t, fn.params[j]? = some t → Tryd.pinned.checked.prog.wantsStandIn t = false := by
  obtain rfl : f = 3 := Option.some.inj ((show Tryd.prog.funcNamed "bulletin/bulletinlaw08.SignerVerify" = some 3 by kernel_rfl).symm.trans hf) |>.symm
  obtain rfl : fn = Tryd.f3 := (Option.some.inj (Tryd.func3.symm.trans hfn)).symm
  refine ⟨by kernel_rfl, fun j t ht => ?_⟩
  rw [Tryd.params3] at ht
  have ht := Array.mem_of_getElem? ht
  have ht2 : t = 22 ∨ t = 26 ∨ t = 3 := by
    simp at ht
    first | omega | (rcases ht with h | h | h | h <;> simp [h]) | (rcases ht with h | h | h <;> simp [h]) | (rcases ht with h | h <;> simp [h])
  rcases ht2 with rfl | rfl | rfl
  · exact (show Tryd.prog.wantsStandIn 22 = false by kernel_rfl)
  · exact (show Tryd.prog.wantsStandIn 26 = false by kernel_rfl)
  · exact (show Tryd.prog.wantsStandIn 3 = false by kernel_rfl)
/-- The card. -/
theorem card : Rows.SignerVerifyCardSaid :=
  Claim7.holds_tied_plain_at .later [] _ _ _ _ said (fun _ h => by cases h) (by kernel_rfl) (fun _ h => by cases h) signerVerify_row_tie rfl ⟨rfl, rfl⟩ (by kernel_rfl) rfl plain (by kernel_rfl)
end Go.Proofs.YtdnnjgjaffkdfaaDoor.signerVerify
namespace Go.Proofs.YtdnnjgjaffkdfaaDoor
theorem signerVerifyCard : Rows.SignerVerifyCardSaid := signerVerify.card
end Go.Proofs.YtdnnjgjaffkdfaaDoor
