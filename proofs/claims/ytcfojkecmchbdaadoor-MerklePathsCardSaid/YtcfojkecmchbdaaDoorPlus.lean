/- Contracts of sha256.plus and sha256.initial. Condition: none. -/
import Derived.Test.YtcfojkecmchbdaaDoorRound
namespace Go.Proofs.YtcfojkecmchbdaaDoor
open Go Go.RowKit
set_option maxHeartbeats 1000000 in
theorem plus_any (v u : Bul.St) (w : World) :
    Calls Tryd.prog 69 #[stv v, stv u] w fun e w' => e = .returned (stv (Bul.plus v u)) ∧ Below w.heap.size w w' := by
  obtain ⟨a, b, c, d, e, f, g, h⟩ := v
  obtain ⟨a', b', c', d', e', f', g', h'⟩ := u
  unfold stv
  go_enter Tryd.func69, Tryd.ntmps69
  go_wp2_with fail
  go_returns
  refine ⟨?_, ?_⟩
  · simp only [Bul.plus, Bul.add32, Int.natCast_emod, Int.natCast_add, Int.cast_ofNat_Int]
  · repeat' (first | with_reducible exact Below.refl _ _ | with_reducible assumption | with_reducible refine Below.setCell ?_ ?_ _ | with_reducible refine below_drewN ?_ _ | with_reducible refine Below.drew ?_ | with_reducible refine Below.alloc ?_ ?_ _)
    all_goals first | (simp; done) | (simp; omega) | omega
theorem initial_any (w : World) :
    Calls Tryd.prog 63 #[] w fun e w' => e = .returned (stv Bul.ini) ∧ Below w.heap.size w w' := by
  go_enter Tryd.func63, Tryd.ntmps63
  go_wp2_with fail
  go_returns
  refine ⟨?_, ?_⟩
  · simp only [stv, Bul.ini]; rfl
  · repeat' (first | with_reducible exact Below.refl _ _ | with_reducible assumption | with_reducible refine Below.setCell ?_ ?_ _ | with_reducible refine below_drewN ?_ _ | with_reducible refine Below.drew ?_ | with_reducible refine Below.alloc ?_ ?_ _)
    all_goals first | (simp; done) | (simp; omega) | omega
end Go.Proofs.YtcfojkecmchbdaaDoor
