/- bulletinlaw31.LineClones returns true for every description and operations and leaves it as it was. No condition. -/
import Derived.Test.YtenflgbaibjeoaaMnj
import Derived.Test.YtenflgbaibjeoaaMnk
namespace Go.Proofs.Ytenflgbaibjeoaa.lineClones
open Go Go.RowKit Go.WideShapes Go.ChangeShapes Go.ChangeAt Go.Bul Go.Thg Go.Lin
theorem readable : ∀ t ∈ Try.f12.params.toList, Try.prog.readableRec t = true ∧ t < Try.prog.types.size := by
  rw [Try.params12]
  intro t ht
  have ht2 : t = 49 ∨ t = 52 ∨ t = 42 := by
    simp at ht
    first | omega | (rcases ht with h | h | h <;> simp [h]) | (rcases ht with h | h <;> simp [h])
  rcases ht2 with rfl | rfl | rfl
  all_goals exact ⟨by kernel_rfl, of_decide_eq_true (by kernel_rfl)⟩
set_option maxRecDepth 100000 in
theorem contract (H : Type) (enc : TypeId × Value → H) (W : World) (base : Nat) (args : Array Value) (ds gs : List (DataW H)) (before : List MemPlace)
    (hval : ∀ (j : Nat) t v, Try.f12.params[j]? = some t → args[j]? = some v → Value.okWide Try.prog W .any base t v)
    (hW : DataW.Whole enc Try.prog Try.f12.params.toList Rows.lineClonesSpec.vars false W args.toList ds gs before) :
    Calls Try.prog 12 args W fun e W' => ∃ v, e = .returned v ∧ Rows.lineClonesSpec.post enc Try.prog Try.f12 false true false false W args v W' := by
  have hW' := hW
  obtain ⟨p, q, hA0, hV, rfl, hfz, hnd⟩ := hW
  have hA : DataW.TrodAll enc Try.prog W 0 (fun _ => true) true Try.f12.params.toList args.toList ds p := hA0
  have hlt := fun q (hq : q ∈ p ++ _) => hW'.lt q hq
  rw [Try.params12] at hA hval
  obtain ⟨v0, vs0, d0, ds0, p0, q0, hargs, rfl, rfl, h0, r0⟩ := trodAll_cons hA
  obtain ⟨v1, vs1, d1, ds1, p1, q1, rfl, rfl, rfl, h1, r1⟩ := trodAll_cons r0
  obtain ⟨v2, vs2, d2, ds2, p2, q2, rfl, rfl, rfl, h2, r2⟩ := trodAll_cons r1
  obtain ⟨rfl, rfl, rfl⟩ := trodAll_nil r2
  obtain rfl : args = #[v0, v1, v2] := by cases args; simp_all
  obtain ⟨rfl, rfl⟩ := trodVars_none hV
  obtain ⟨rt0, dl0, pe0, A0, n0, c0, ws0, rfl, hI0⟩ := cfg_arg (hval 0 42 v0 rfl rfl) h0
  obtain ⟨A1, n1, c1, os1, rfl, hO1⟩ := ops_arg (hval 1 49 v1 rfl rfl) h1
  obtain ⟨o2, rfl, hO2⟩ := op_arg (hval 2 52 v2 rfl rfl) h2
  have walk := clones_any rt0 dl0 pe0 A0 n0 c0 ws0 A1 n1 c1 os1 o2 W hI0 hO1 hO2
  refine walk.mono fun e W' ⟨he, hb⟩ => ?_
  subst he
  exact ⟨_, rfl, post_of_below (pv := []) hW' (fun _ _ _ => trodAll_cons_mk (shut_bool Try.underlying4 _) trodAll_mk0)
    (fun sp hsp => all_stay laid_book readable hA0 (fun p hp => same_of_below hb p (hlt p (List.mem_append_left _ hp))) (fun p hp => hsp p (List.mem_append_left _ hp))) (fun _ _ => rfl) (by simp)
    hb (ok_one (by kernel_rfl) rfl (okWide_bool_mk Try.underlying4 _))⟩
theorem laid_met (os : Os) : laidMet Try.prog Rows.lineClonesRow.laid ((World.holding Try.prog os ⟨#[], #[], []⟩).forCall (fun _ _ => 0) ⟨#[], #[.agg #[.int .i64 0, .int .i64 0, .int .i64 0, .slice Option.none 0 0], .slice Option.none 0 0, .agg #[.int .u8 0, .int .i64 0, .string ⟨#[]⟩, .int .i64 0]], []⟩).memory :=
  laidMet_of_run' 8 (by kernel_rfl) (by kernel_rfl)
theorem reads (os : Os) {H : Type} (enc : TypeId × Value → H) : ∃ places, DataW.whole enc Try.prog ((World.holding Try.prog os ⟨#[], #[], []⟩).forCall (fun _ _ => 0) ⟨#[], #[.agg #[.int .i64 0, .int .i64 0, .int .i64 0, .slice Option.none 0 0], .slice Option.none 0 0, .agg #[.int .u8 0, .int .i64 0, .string ⟨#[]⟩, .int .i64 0]], []⟩).memory Try.f12.params.toList Rows.lineClonesSpec.vars false (#[.agg #[.int .i64 0, .int .i64 0, .int .i64 0, .slice Option.none 0 0], .slice Option.none 0 0, .agg #[.int .u8 0, .int .i64 0, .string ⟨#[]⟩, .int .i64 0]] : Array Value).toList 8 = some ([.agg [.lit (.int .i64 0), .lit (.int .i64 0), .lit (.int .i64 0), .nil], .nil, .agg [.lit (.int .u8 0), .lit (.int .i64 0), .lit (.string []), .lit (.int .i64 0)]], [], places) :=
  ⟨[], by kernel_rfl⟩
set_option maxRecDepth 100000 in
theorem lifted (os : Os) (started : os.Started) (H : Type) (enc : TypeId × Value → H) (F : Stop.Interp) :
    ReturnsInHanded {} Try.checked os 12 .any ((OpenSpec.ofChange Rows.lineClonesSpec).preRow enc Try.prog Try.f12 Rows.lineClonesRow.domain false Rows.lineClonesRow.laid) (((OpenSpec.ofChange Rows.lineClonesSpec).at F).post enc Try.prog Try.f12 false true false false) := by
  obtain ⟨places, hx⟩ := reads os enc
  refine returnsInHanded_of_row (C := Try.checked) (s := OpenSpec.ofChange Rows.lineClonesSpec) own started (by kernel_rfl) Try.func12
    (witness_row_at (enc := enc) (C := Try.checked) false (World.holding Try.prog os ⟨#[], #[], []⟩) #[.agg #[.int .i64 0, .int .i64 0, .int .i64 0, .slice Option.none 0 0], .slice Option.none 0 0, .agg #[.int .u8 0, .int .i64 0, .string ⟨#[]⟩, .int .i64 0]] rfl (by kernel_rfl) (by kernel_rfl) (by kernel_rfl)
      (OpenSpec.preRow_of_cond 8 hx (by kernel_rfl) (fun k hk => by cases hk) (by kernel_rfl) (laid_met os))) ?_
  intro W base args ds gs before hval hW _ _ _ _ _ _
  exact contract H enc W base args ds gs before hval hW
theorem said : Rows.LineClonesSaid :=
  OpenClaim.holds_of_cond 12 Try.f12 rfl rfl rfl rfl rfl rfl rfl ⟨rfl, rfl, rfl, rfl, rfl⟩ rfl rfl rfl rfl rfl (by kernel_rfl) Try.func12 (by kernel_rfl)
    (of_decide_eq_true (by kernel_rfl)) (by unfold Func.isWrapper; first | (rw [if_pos (by decide +kernel)]; kernel_rfl) | (rw [if_neg (by decide +kernel)]; exact ⟨rfl, rfl⟩))
    (fun os started H enc _ F => by rw [OpenClaim.pre_eq_preRow]; exact lifted os started H enc F)
end Go.Proofs.Ytenflgbaibjeoaa.lineClones
namespace Go.Proofs.Ytenflgbaibjeoaa
theorem lineClones : Rows.LineClonesSaid := lineClones.said
end Go.Proofs.Ytenflgbaibjeoaa
