/- The walk of bulletinlaw05.Sha256Nil. -/
import Derived.Test.YtcdabngkpocnbaaDoorKnown
namespace Go.Proofs.YtcdabngkpocnbaaDoor
open Go Go.RowKit Go.Bul
theorem eq_dig (l m : List Nat) (hl : l.length = 32) (hm : m.length = 32) (W : World) : (Op.equalIn 10000 25 (.agg (cellsOf .u8 l)) (.agg (cellsOf .u8 m))).run Tryd.prog W = .ok (l == m) W :=
  run_equalIn_nums W 9998 l m Tryd.underlying25 Tryd.underlying5 size_u8 hl hm
theorem nil_any (A : Option Addr) (n c : Nat) (w : World) (hn : n ≤ c) (hc : c ≤ 9223372036854775807) (hT : Tab w) :
    Calls Tryd.prog 8 #[.slice A n c] w fun e w' => e = .returned (.bool true) ∧ Below w.heap.size w w' := by
  have hs := sumh_nil
  obtain ⟨z, hz⟩ : ∃ z, z = List.replicate 32 0 := ⟨_, rfl⟩
  rw [← hz] at hs
  have hl : z.length = 32 := by rw [hz]; rfl
  have he : ∀ W, (Op.equalIn 10000 25 (.agg (cellsOf .u8 z)) (.agg #[.int .u8 0, .int .u8 0, .int .u8 0, .int .u8 0, .int .u8 0, .int .u8 0, .int .u8 0, .int .u8 0, .int .u8 0, .int .u8 0, .int .u8 0, .int .u8 0, .int .u8 0, .int .u8 0, .int .u8 0, .int .u8 0, .int .u8 0, .int .u8 0, .int .u8 0, .int .u8 0, .int .u8 0, .int .u8 0, .int .u8 0, .int .u8 0, .int .u8 0, .int .u8 0, .int .u8 0, .int .u8 0, .int .u8 0, .int .u8 0, .int .u8 0, .int .u8 0])).run Tryd.prog W = .ok true W := fun W => by
    have := eq_dig z z hl hl W
    rw [show (Value.agg #[.int .u8 0, .int .u8 0, .int .u8 0, .int .u8 0, .int .u8 0, .int .u8 0, .int .u8 0, .int .u8 0, .int .u8 0, .int .u8 0, .int .u8 0, .int .u8 0, .int .u8 0, .int .u8 0, .int .u8 0, .int .u8 0, .int .u8 0, .int .u8 0, .int .u8 0, .int .u8 0, .int .u8 0, .int .u8 0, .int .u8 0, .int .u8 0, .int .u8 0, .int .u8 0, .int .u8 0, .int .u8 0, .int .u8 0, .int .u8 0, .int .u8 0, .int .u8 0]) = .agg (cellsOf .u8 z) by rw [hz]; rfl, this]
    simp
  clear hz
  go_enter Tryd.func8, Tryd.ntmps8
  go_wp2_with fail
  (with_reducible refine (known_any w hT).mono ?_)
  rintro e w1 ⟨rfl, hb1⟩
  go_wp2_with fail
  (with_reducible refine (cut_any A n c w1 hn hc).mono ?_)
  rintro e w2 ⟨rfl, rfl⟩
  go_wp2_with fail
  (with_reducible refine (write_nil w1 _).mono ?_)
  rintro e w2 ⟨rfl, rfl⟩
  go_wp2_with fail
  (with_reducible refine (hs w1).mono ?_)
  rintro e w3 ⟨rfl, hb3⟩
  have k3 := Below.step hb1 hb3
  go_wp2_with fail
  (with_reducible refine (len_nil w3).mono ?_)
  rintro e w4 ⟨rfl, rfl⟩
  go_wp2_with fail
  (with_reducible refine (clone_nil w3).mono ?_)
  rintro e w4 ⟨rfl, rfl⟩
  go_wp2_with fail
  go_ret
  exact ⟨rfl, k3⟩
end Go.Proofs.YtcdabngkpocnbaaDoor
