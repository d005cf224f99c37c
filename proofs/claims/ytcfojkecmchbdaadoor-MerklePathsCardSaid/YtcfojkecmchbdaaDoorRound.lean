/- Contracts of sha256.round, plus and initial: the values are those of the plain definition, memory that was there is as it was. Condition: the words are below 2^32. -/
import Derived.Test.YtcfojkecmchbdaaDoorRot
import Derived.Test.YtcfojkecmchbdaaDoorBase
import Derived.BigQuiet
import Derived.Deep.QuietTactic
import Derived.Handy
namespace Go.Proofs.YtcfojkecmchbdaaDoor
open Go Go.RowKit
theorem quiet_left {P : Program} {f : FuncId} {args : Array Value} {w : World} {n : Nat} {v : Value}
    (h : Calls P f args (w.drewN n) fun e w' => e = .returned v ∧ w.drewN n = w') : Calls P f args (w.drewN n) fun e w'' => e = .returned v ∧ ∃ m, w'' = w.drewN m :=
  h.mono fun _ _ ⟨he, hm⟩ => ⟨he, n, hm.symm⟩
theorem quiet_add_left {P : Program} {f : FuncId} {args : Array Value} {w : World} {a n : Nat} {v : Value}
    (h : Calls P f args (w.drewN (a + n)) fun e w' => e = .returned v ∧ w.drewN (a + n) = w') :
    Calls P f args (w.drewN (a + n)) fun e w'' => e = .returned v ∧ ∃ m, w'' = w.drewN (a + m) :=
  h.mono fun _ _ ⟨he, hm⟩ => ⟨he, n, hm.symm⟩
theorem below_drewN {B : Nat} {a w : World} (h : Below B a w) (n : Nat) : Below B a (w.drewN n) := ⟨h.os, h.tape, h.output, h.size, h.block⟩
theorem S1_int (e : Nat) (he : e < 4294967296) : bits .xor .u32 (bits .xor .u32 ↑(Bul.rotr e 6) ↑(Bul.rotr e 11)) ↑(Bul.rotr e 25) = ((Bul.S1 e : Nat) : Int) := by
  rw [u32_xor_nat _ _ (rotr_lt _ _ he) (rotr_lt _ _ he), u32_xor_nat _ _ (Nat.xor_lt_two_pow (n := 32) (rotr_lt _ _ he) (rotr_lt _ _ he)) (rotr_lt _ _ he), Bul.S1]
theorem S0_int (e : Nat) (he : e < 4294967296) : bits .xor .u32 (bits .xor .u32 ↑(Bul.rotr e 2) ↑(Bul.rotr e 13)) ↑(Bul.rotr e 22) = ((Bul.S0 e : Nat) : Int) := by
  rw [u32_xor_nat _ _ (rotr_lt _ _ he) (rotr_lt _ _ he), u32_xor_nat _ _ (Nat.xor_lt_two_pow (n := 32) (rotr_lt _ _ he) (rotr_lt _ _ he)) (rotr_lt _ _ he), Bul.S0]
theorem and_lt32 {a b : Nat} (ha : a < 4294967296) : a &&& b < 4294967296 := Nat.lt_of_le_of_lt Nat.and_le_left ha
theorem xor_lt32 {a b : Nat} (ha : a < 4294967296) (hb : b < 4294967296) : a ^^^ b < 4294967296 := Nat.xor_lt_two_pow (n := 32) ha hb
theorem xor_full (x : Nat) (hx : x < 4294967296) : 4294967295 ^^^ x = 4294967295 - x := by
  have h := congrArg BitVec.toNat (BitVec.allOnes_xor (x := BitVec.ofNat 32 x))
  rw [BitVec.toNat_xor, BitVec.toNat_not, BitVec.toNat_allOnes, BitVec.toNat_ofNat, Nat.mod_eq_of_lt hx] at h
  exact h
theorem not_int (e : Nat) (he : e < 4294967296) : bits .xor .u32 (IntKind.u32.max) ↑e = ((4294967295 - e : Nat) : Int) := by
  have h : IntKind.u32.max = ((4294967295 : Nat) : Int) := by decide
  rw [h, u32_xor_nat _ _ (by decide) he, xor_full e he]
theorem ch_int (e f g : Nat) (he : e < 4294967296) (hg : g < 4294967296) (hf : f < 4294967296) :
    bits .xor .u32 (bits .and .u32 ↑e ↑f) (bits .and .u32 (bits .xor .u32 IntKind.u32.max ↑e) ↑g) = ((Bul.chf e f g : Nat) : Int) := by
  rw [not_int e he, u32_and_nat _ _ he hf, u32_and_nat _ _ (by omega) hg, u32_xor_nat _ _ (and_lt32 he) (and_lt32 (by omega)), Bul.chf]
theorem maj_int (a b c : Nat) (ha : a < 4294967296) (hb : b < 4294967296) (hc : c < 4294967296) :
    bits .xor .u32 (bits .xor .u32 (bits .and .u32 ↑a ↑b) (bits .and .u32 ↑a ↑c)) (bits .and .u32 ↑b ↑c) = ((Bul.maj a b c : Nat) : Int) := by
  rw [u32_and_nat _ _ ha hb, u32_and_nat _ _ ha hc, u32_and_nat _ _ hb hc, u32_xor_nat _ _ (and_lt32 ha) (and_lt32 ha), u32_xor_nat _ _ (xor_lt32 (and_lt32 ha) (and_lt32 ha)) (and_lt32 hb), Bul.maj]
/-- The eight words of a state, as a value. -/
def stv (v : Bul.St) : Value := .agg #[.int .u32 v.a, .int .u32 v.b, .int .u32 v.c, .int .u32 v.d, .int .u32 v.e, .int .u32 v.f, .int .u32 v.g, .int .u32 v.h]
set_option maxHeartbeats 1000000 in
theorem round_any (v : Bul.St) (k x : Nat) (w : World) (hv : v.Ok) :
    Calls Tryd.prog 68 #[stv v, .int .u32 k, .int .u32 x] w fun e w' => e = .returned (stv (Bul.rnd v k x)) ∧ Below w.heap.size w w' := by
  obtain ⟨a, b, c, d, e, f, g, h⟩ := v
  obtain ⟨ha, hb, hc, hd, he, hf, hg, hh⟩ := hv
  simp only at ha hb hc hd he hf hg hh
  have H := Lib.hid (And.intro (S1_int e he) (And.intro (S0_int a ha) (And.intro (ch_int e f g he hg hf) (maj_int a b c ha hb hc))))
  unfold stv
  clear hb hc hd hf hg hh
  go_enter Tryd.func68, Tryd.ntmps68
  go_wp2_with fail
  go_quiet ((go_at_call 67; first | exact quiet_left (rot_any a 2 _ ha (by simp [IsRot]) _ rfl) | exact quiet_left (rot_any a 13 _ ha (by simp [IsRot]) _ rfl) | exact quiet_left (rot_any a 22 _ ha (by simp [IsRot]) _ rfl)))
  go_wp2_with fail
  go_quiet ((go_at_call 67; first | exact quiet_add_left (rot_any e 6 _ he (by simp [IsRot]) _ rfl) | exact quiet_add_left (rot_any e 11 _ he (by simp [IsRot]) _ rfl) | exact quiet_add_left (rot_any e 25 _ he (by simp [IsRot]) _ rfl)))
  go_wp2_with fail
  go_returns
  obtain ⟨h1, h2, h3, h4⟩ := H.out
  refine ⟨?_, ?_⟩
  · rw [h1, h2, h3, h4]
    simp only [Bul.rnd, Bul.one, Bul.two, Bul.add32]
    congr 4
    · congr 1; omega
    · simp only [List.cons.injEq, true_and]
      constructor
      · congr 1; omega
      · trivial
  · repeat' (first | with_reducible exact Below.refl _ _ | with_reducible assumption | with_reducible refine Below.setCell ?_ ?_ _ | with_reducible refine below_drewN ?_ _ | with_reducible refine Below.drew ?_ | with_reducible refine Below.alloc ?_ ?_ _)
    all_goals first | (simp; done) | (simp; omega) | omega
end Go.Proofs.YtcfojkecmchbdaaDoor
