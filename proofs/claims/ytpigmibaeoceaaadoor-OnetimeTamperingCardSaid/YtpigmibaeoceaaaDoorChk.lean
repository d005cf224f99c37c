/- Contracts of onetime's Evidence.Check: a value that leads to a later one. -/
import Derived.Test.YtpigmibaeoceaaaDoorZj
namespace Go.Bul
open Go Go.RowKit
theorem wpList_build_run {P : Program} {w : World} {ops : Array Oper} {o : Oper} {rest : List Oper} {a : Act} {Q : Exit → Act → World → Prop} (hgd : o.guard = none) (ty : TypeId) (ps : Array (Nat × Operand)) (ho : o.op = .build ty ps) (parts : Array (Nat × Value)) (hp : (ps.map fun p => (p.1, a.eval p.2)) = parts) (v : Value)
    (hr : (Instr.build ty parts).run P w = .ok v w) (h : wpList P ops Q rest (a.put o.dst v) w) : wpList P ops Q (o :: rest) a w := by
  refine wpList_plain hgd fun K hK => ?_
  subst hp
  unfold Oper.wp execOp
  simp only [ho]
  have hr' : (Instr.build ty (ps.map fun (x : Nat × Operand) => match x with | (i, x) => (i, a.eval x))).run P w = .ok v w := hr
  simp only [Sem.run_bind, hr', Result.andThen_ok, Sem.run_pure]
  exact hK _ _ h
end Go.Bul
namespace Go.Proofs.YtpigmibaeoceaaaDoor
open Go Go.RowKit Go.Bul
theorem zero_evi : ZeroTy Tryd.prog 29 1156 (evc 0 0 0 0 (zeros 16) (zeros 16) (zeros 560) (zeros 560)) := ⟨⟨.agg _, evi_zero, rfl, evc_size ok0⟩⟩
theorem eq_known (k c f t : Int) (A B F S : List Nat) (h : EvOk A B F S) (W : World) :
    (Op.equalIn 10000 29 (.agg (evc k c f t A B F S)) (.agg (evc k c f t A B (zeros 560) (zeros 560)))).run Tryd.prog W = .ok (F == zeros 560 && S == zeros 560) W := by
  rw [eq_evi k c f t k c f t A B F S A B (zeros 560) (zeros 560) h ⟨h.a, h.b, zeros_length _, zeros_length _⟩ W]
  simp
end Go.Proofs.YtpigmibaeoceaaaDoor
