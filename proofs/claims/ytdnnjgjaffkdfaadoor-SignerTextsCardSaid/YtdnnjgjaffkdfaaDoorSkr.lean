/- The reference: Half, Bytes, Author. -/
import Derived.Test.YtdnnjgjaffkdfaaDoorWh
import Derived.Test.YtdnnjgjaffkdfaaDoorVl
import Derived.Test.YtdnnjgjaffkdfaaDoorVp
namespace Go.Proofs.YtdnnjgjaffkdfaaDoor
section
open Go Go.RowKit Go.Bul
end
open Go Go.RowKit Go.Bul Go.Thg Go.Lin
set_option maxRecDepth 20000 in
set_option maxHeartbeats 1000000 in
theorem rbytes_any (h : Nat) (r : Nd) (w : World) (hh : h < 256) :
    Calls Tryd.prog 42 #[.int .i64 (h : Nat), .agg (ndC r)] w fun e w' => ∃ A c, e = .returned (.slice A 17 c) ∧ Becomes [] w (bT (.slice A 17 c) (pubBs h r)) w' := by
  have hM := Mem.start [] w
  have HL := Lib.hid (pubBs_length h r)
  have Hw : IntKind.u8.wrap (h : Int) = (h : Int) := by rw [IntKind.wrap_u8]; omega
  have e1 := Lib.hid (show pubBs h r = [h] ++ r.val from rfl)
  have h63 : [h].length + r.val.length ≤ 1000000000 := by rw [r.len, List.length_singleton]; decide
  generalize pubBs h r = BS at HL e1 ⊢
  clear hh
  go_enter Tryd.func42, Tryd.ntmps42
  go_wp2_with (first | ((with_reducible refine at_box ?_); refine slb hM ?_ (hty := row_a16) (hn := ndC_size _); clear hM; intro g1 w1 hM) | (refine lbb1 hM ?_; clear hM; intro g2 wz hM; replace hM := mem_bytes (xs := [h]) hM rfl rfl (by decide) (by decide)) | ((with_reducible refine at_append ?_); refine la ((nd_reads hM (List.Mem.head _)).src (c := 16) Tryd.underlying78 (vals_one _ _)) hM h63 ?_; clear hM; intro A2 N2 c2 wy hN hM))
  go_ret
  rw [← e1.out] at hM hN
  obtain rfl : N2 = 17 := by have := hN.out; have := HL.out; omega
  exact ⟨A2, c2, rfl, (hM.subL (List.nil_sublist _)).becomes (List.Mem.head _)⟩
end Go.Proofs.YtdnnjgjaffkdfaaDoor
