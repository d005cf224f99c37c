/- Seat n: math/bits.Len of a small number gives some number. -/
import Derived.Test.YtpjphjokhccdaaaGreatNgd
namespace Go.Proofs.YtpjphjokhccdaaaGreat
open Go Go.RowKit Go.Bul Go.Thg Go.Lin Go.Maps
section
variable {w : World} {ops : Array Oper} {rest : List Oper} {o : Oper} {a : Act} {Q : Exit → Act → World → Prop} {dst : Option Tmp} {type : TypeId} {pos : String} {after : Array Edge} {x y : Operand}
theorem at_ix {t : TypeId} (h : wpList Tryz.prog ops Q (⟨dst, .index t x y, type, pos, after, none⟩ :: rest) a w) : wpList Tryz.prog ops Q (⟨dst, .index t x y, type, pos, after, none⟩ :: rest) a w := h
theorem run_bix {s : ByteArray} {k : Nat} (hk : k < s.size) (w : World) : ∃ c : Nat, c < 256 ∧ (Instr.index 9 (.string s) (.int .u8 (k : Nat))).run Tryz.prog w = .ok (.int .u8 (c : Nat)) w := by
  rw [run_index_string w _ s .u8 _ Tryz.underlying9, dif_pos ⟨by omega, by omega⟩]
  exact ⟨_, UInt8.toNat_lt _, rfl⟩
theorem nbix {s : ByteArray} (k : Nat) (hk : k < s.size) (h : ∀ c : Nat, c < 256 → wpList Tryz.prog ops Q rest (a.put o.dst (.int .u8 (c : Nat))) w) (hgd : o.guard = none := by rfl) (ho : o.op = .index 9 x y := by rfl) (hx : a.eval x = .string s := by rfl) (hy : a.eval y = .int .u8 (k : Nat) := by rfl) : wpList Tryz.prog ops Q (o :: rest) a w :=
  wpList_plain hgd fun K hK => by
    obtain ⟨c, hc, hr⟩ := run_bix hk w
    unfold Oper.wp execOp
    simp only [ho, hx, hy, Sem.run_bind, Sem.run_pure, Result.andThen_ok, hr]
    exact hK _ _ (h c hc)
end
set_option maxRecDepth 20000 in
set_option maxHeartbeats 2000000 in
theorem len64_any (n : Nat) (w : World) (hn : n ≤ 12) : Calls Tryz.prog 79 #[.int .u64 (n : Nat)] w fun e w' => (∃ z, e = .returned (.int .i64 z)) ∧ w = w' := by
  have n0 : (0 : Int) ≤ (n : Int) := Int.natCast_nonneg _
  have n1 : (n : Int) ≤ 12 := by omega
  have c1 : decide ((4294967296 : Int) ≤ (n : Int)) = false := decide_eq_false (by omega)
  have c2 : decide ((65536 : Int) ≤ (n : Int)) = false := decide_eq_false (by omega)
  have c3 : decide ((256 : Int) ≤ (n : Int)) = false := decide_eq_false (by omega)
  have d1 : decide (4294967296 ≤ n) = false := decide_eq_false (by omega)
  have d2 : decide (65536 ≤ n) = false := decide_eq_false (by omega)
  have d3 : decide (256 ≤ n) = false := decide_eq_false (by omega)
  have hw : IntKind.u8.wrap (n : Int) = (n : Int) := IntWalk.u8_in _ ⟨by omega, by omega⟩
  have HN := Lib.hid hn
  clear hn
  go_enter Tryz.func79, Tryz.ntmps79
  go_wp2_with ((with_reducible refine at_ix ?_); refine nbix n (by have := HN.out; exact Nat.lt_of_le_of_lt this (by decide +kernel)) ?_; intro c hc)
  go_ret
  exact ⟨⟨_, rfl⟩, rfl⟩
set_option maxRecDepth 20000 in
theorem len_any (n : Nat) (w : World) (hn : n ≤ 12) : Calls Tryz.prog 58 #[.int .u64 (n : Nat)] w fun e w' => (∃ z, e = .returned (.int .i64 z)) ∧ w = w' := by
  have HL := Lib.hid (fun w => len64_any n w hn)
  have n0 : (0 : Int) ≤ (n : Int) := Int.natCast_nonneg _
  have n1 : (n : Int) ≤ 12 := by omega
  clear hn
  go_enter Tryz.func58, Tryz.ntmps58
  go_wp2_with ((with_reducible refine (HL.out _).mono ?_); rintro e w1 ⟨⟨z, rfl⟩, rfl⟩)
  go_ret
  exact ⟨⟨_, rfl⟩, rfl⟩
end Go.Proofs.YtpjphjokhccdaaaGreat
