/- bulletinlaw08.SignerChanged returns true for every seed, height, leaf, digest, place and byte and leaves it as it was (the card). Conditions: the card's own. -/
import Derived.Test.YtbbdnlcjjcmllaaDoorSfa
import Derived.Test.YtbbdnlcjjcmllaaDoorWp
namespace Go.Proofs.YtbbdnlcjjcmllaaDoor.signerChanged
open Go Go.RowKit Go.WideShapes Go.ChangeShapes Go.ChangeAt Go.Bul
theorem readable : ∀ t ∈ Tryd.f3.params.toList, Tryd.prog.readableRec t = true ∧ t < Tryd.prog.types.size := by
  rw [Tryd.params3]
  intro t ht
  have ht2 : t = 23 ∨ t = 22 ∨ t = 24 ∨ t = 5 := by
    simp at ht
    first | omega | (rcases ht with h | h | h | h | h | h <;> simp [h]) | (rcases ht with h | h | h | h | h <;> simp [h]) | (rcases ht with h | h | h | h <;> simp [h]) | (rcases ht with h | h | h <;> simp [h]) | (rcases ht with h | h <;> simp [h])
  rcases ht2 with rfl | rfl | rfl | rfl
  all_goals exact ⟨by kernel_rfl, of_decide_eq_true (by kernel_rfl)⟩
set_option maxRecDepth 100000 in
theorem contract (H : Type) (enc : TypeId × Value → H) (W : World) (base : Nat) (args : Array Value) (ds gs : List (DataW H)) (before : List MemPlace)
    (hval : ∀ (j : Nat) t v, Tryd.f3.params[j]? = some t → args[j]? = some v → Value.okWide Tryd.prog W .any base t v)
    (hW : DataW.Whole enc Tryd.prog Tryd.f3.params.toList Rows.signerChangedSpec.vars false W args.toList ds gs before) (hL : laidMetH Tryd.prog Rows.signerChangedRow.laid W) :
    Calls Tryd.prog 3 args W fun e W' => ∃ v, e = .returned v ∧ Rows.signerChangedSpec.post enc Tryd.prog Tryd.f3 false true false false W args v W' := by
  have hW' := hW
  obtain ⟨p, q, hA0, hV, rfl, hfz, hnd⟩ := hW
  have hA : DataW.TrodAll enc Tryd.prog W 0 (fun _ => true) true Tryd.f3.params.toList args.toList ds p := hA0
  have hlt := fun q (hq : q ∈ p ++ _) => hW'.lt q hq
  rw [Tryd.params3] at hA hval
  obtain ⟨v0, vs0, d0, ds0, p0, q0, hargs, rfl, rfl, h0, r0⟩ := trodAll_cons hA
  obtain ⟨v1, vs1, d1, ds1, p1, q1, rfl, rfl, rfl, h1, r1⟩ := trodAll_cons r0
  obtain ⟨v2, vs2, d2, ds2, p2, q2, rfl, rfl, rfl, h2, r2⟩ := trodAll_cons r1
  obtain ⟨v3, vs3, d3, ds3, p3, q3, rfl, rfl, rfl, h3, r3⟩ := trodAll_cons r2
  obtain ⟨v4, vs4, d4, ds4, p4, q4, rfl, rfl, rfl, h4, r4⟩ := trodAll_cons r3
  obtain ⟨v5, vs5, d5, ds5, p5, q5, rfl, rfl, rfl, h5, r5⟩ := trodAll_cons r4
  obtain ⟨rfl, rfl, rfl⟩ := trodAll_nil r5
  obtain rfl : args = #[v0, v1, v2, v3, v4, v5] := by cases args; simp_all
  obtain ⟨rfl, rfl⟩ := trodVars_none hV
  obtain ⟨bs0, rfl, hl0, hb0⟩ := arr_arg Tryd.underlying22 Tryd.underlying5 cells_u8 (by kernel_rfl) (hval 0 22 v0 rfl rfl) h0
  obtain ⟨x1, rfl, hx1⟩ := byte_arg Tryd.underlying5 (hval 1 5 v1 rfl rfl) h1
  obtain ⟨x2, rfl, hx2⟩ := byte_arg Tryd.underlying5 (hval 2 5 v2 rfl rfl) h2
  obtain ⟨bs3, rfl, hl3, hb3⟩ := arr_arg Tryd.underlying23 Tryd.underlying5 cells_u8 (by kernel_rfl) (hval 3 23 v3 rfl rfl) h3
  obtain ⟨z4, rfl, hz4⟩ := int_arg Tryd.underlying24 (hval 4 24 v4 rfl rfl) h4
  obtain ⟨x5, rfl, hx5⟩ := byte_arg Tryd.underlying5 (hval 5 5 v5 rfl rfl) h5
  have walk := schg_row bs0 x1 x2 bs3 z4 x5 W hl0 hb0 hx1 hx2 hl3 hb3 hz4 hx5 (tab_of2 hL) (alp_of2 hL)
  refine walk.mono fun e W' ⟨he, hb⟩ => ?_
  subst he
  exact ⟨_, rfl, post_of_below (pv := []) hW' (fun _ _ _ => trodAll_cons_mk (shut_bool Tryd.underlying4 _) trodAll_mk0)
    (fun sp hsp => all_stay laid_book readable hA0 (fun p hp => same_of_below hb p (hlt p (List.mem_append_left _ hp))) (fun p hp => hsp p (List.mem_append_left _ hp))) (fun _ _ => rfl) (by simp)
    hb (ok_one (by kernel_rfl) rfl (okWide_bool_mk Tryd.underlying4 _))⟩
theorem laid_met (os : Os) : laidMet Tryd.prog Rows.signerChangedRow.laid ((laidWorld2 os).forCall (fun _ _ => 0) ⟨#[], #[.agg (cellsOf .u8 (List.replicate 32 0)), .int .u8 0, .int .u8 0, .agg (cellsOf .u8 (List.replicate 16 0)), .int .u16 0, .int .u8 0], []⟩).memory :=
  laidMet_of_run' 8 (by kernel_rfl) (by kernel_rfl)
theorem reads (os : Os) {H : Type} (enc : TypeId × Value → H) : ∃ places, DataW.whole enc Tryd.prog ((laidWorld2 os).forCall (fun _ _ => 0) ⟨#[], #[.agg (cellsOf .u8 (List.replicate 32 0)), .int .u8 0, .int .u8 0, .agg (cellsOf .u8 (List.replicate 16 0)), .int .u16 0, .int .u8 0], []⟩).memory Tryd.f3.params.toList Rows.signerChangedSpec.vars false (#[.agg (cellsOf .u8 (List.replicate 32 0)), .int .u8 0, .int .u8 0, .agg (cellsOf .u8 (List.replicate 16 0)), .int .u16 0, .int .u8 0] : Array Value).toList 8 = some ([.agg (List.replicate 32 (.lit (.int .u8 0))), .lit (.int .u8 0), .lit (.int .u8 0), .agg (List.replicate 16 (.lit (.int .u8 0))), .lit (.int .u16 0), .lit (.int .u8 0)], [], places) :=
  ⟨[], by kernel_rfl⟩
set_option maxRecDepth 100000 in
theorem lifted (os : Os) (started : os.Started) (H : Type) (enc : TypeId × Value → H) (F : Stop.Interp) :
    ReturnsInHanded {} Tryd.checked os 3 .any ((OpenSpec.ofChange Rows.signerChangedSpec).preRow enc Tryd.prog Tryd.f3 Rows.signerChangedRow.domain false Rows.signerChangedRow.laid) (((OpenSpec.ofChange Rows.signerChangedSpec).at F).post enc Tryd.prog Tryd.f3 false true false false) := by
  obtain ⟨places, hx⟩ := reads os enc
  refine returnsInHanded_of_row (C := Tryd.checked) (s := OpenSpec.ofChange Rows.signerChangedSpec) own started (by kernel_rfl) Tryd.func3
    (witness_row_at (enc := enc) (C := Tryd.checked) false (laidWorld2 os) #[.agg (cellsOf .u8 (List.replicate 32 0)), .int .u8 0, .int .u8 0, .agg (cellsOf .u8 (List.replicate 16 0)), .int .u16 0, .int .u8 0] rfl (by kernel_rfl) (by kernel_rfl) (by kernel_rfl)
      (OpenSpec.preRow_of_cond 8 hx (by kernel_rfl) (fun k hk => by cases hk) (by kernel_rfl) (laid_met os))) ?_
  intro W base args ds gs before hval hW _ _ _ hL _ _
  exact contract H enc W base args ds gs before hval hW hL
theorem said : Rows.SignerChangedSaid :=
  OpenClaim.holds_of_cond 3 Tryd.f3 rfl rfl rfl rfl rfl rfl rfl ⟨rfl, rfl, rfl, rfl, rfl⟩ rfl rfl rfl rfl rfl (by kernel_rfl) Tryd.func3 (by kernel_rfl)
    (of_decide_eq_true (by kernel_rfl)) (by unfold Func.isWrapper; first | (rw [if_pos (by decide +kernel)]; kernel_rfl) | (rw [if_neg (by decide +kernel)]; exact ⟨rfl, rfl⟩))
    (fun os started H enc _ F => by rw [OpenClaim.pre_eq_preRow]; exact lifted os started H enc F)
theorem plain (f : FuncId) (fn : Func) (hf : Tryd.pinned.checked.prog.funcNamed "bulletin/bulletinlaw08.SignerChanged" = some f) (hfn : Tryd.pinned.checked.prog.funcs[f]? = some fn) :
    false = Tryd.pinned.checked.prog.looks [] ∧ ∀ (j : Nat) t, fn.params[j]? = some t → Tryd.pinned.checked.prog.wantsStandIn t = false := by
  obtain rfl : f = 3 := Option.some.inj ((show Tryd.prog.funcNamed "bulletin/bulletinlaw08.SignerChanged" = some 3 by kernel_rfl).symm.trans hf) |>.symm
  obtain rfl : fn = Tryd.f3 := (Option.some.inj (Tryd.func3.symm.trans hfn)).symm
  refine ⟨by kernel_rfl, fun j t ht => ?_⟩
  rw [Tryd.params3] at ht
  have ht := Array.mem_of_getElem? ht
  have ht2 : t = 23 ∨ t = 22 ∨ t = 24 ∨ t = 5 := by
    simp at ht
    first | omega | (rcases ht with h | h | h | h | h | h <;> simp [h]) | (rcases ht with h | h | h | h | h <;> simp [h]) | (rcases ht with h | h | h | h <;> simp [h]) | (rcases ht with h | h | h <;> simp [h]) | (rcases ht with h | h <;> simp [h])
  rcases ht2 with rfl | rfl | rfl | rfl
  · exact (show Tryd.prog.wantsStandIn 23 = false by kernel_rfl)
  · exact (show Tryd.prog.wantsStandIn 22 = false by kernel_rfl)
  · exact (show Tryd.prog.wantsStandIn 24 = false by kernel_rfl)
  · exact (show Tryd.prog.wantsStandIn 5 = false by kernel_rfl)
/-- The card. -/
theorem card : Rows.SignerChangedCardSaid :=
  Claim7.holds_tied_plain_at .later [] _ _ _ _ said (fun _ h => by cases h) (by kernel_rfl) (fun _ h => by cases h) signerChanged_row_tie rfl ⟨rfl, rfl⟩ (by kernel_rfl) rfl plain (by kernel_rfl)
end Go.Proofs.YtbbdnlcjjcmllaaDoor.signerChanged
namespace Go.Proofs.YtbbdnlcjjcmllaaDoor
theorem signerChangedCard : Rows.SignerChangedCardSaid := signerChanged.card
end Go.Proofs.YtbbdnlcjjcmllaaDoor
