/- Contract of known. -/
import Derived.Test.YtenflgbaibjeoaaLno
import Derived.Test.YtenflgbaibjeoaaMne
import Derived.Test.YtenflgbaibjeoaaLnr
import Derived.Test.YtenflgbaibjeoaaLnj
namespace Go.Lin
open Go Go.Bul
/-- The states of known(). -/
def k25 : ByteArray := ⟨#[97, 98, 99, 100, 101, 102, 103, 104, 105, 106, 107, 108, 109, 110, 111, 112, 113, 114, 115, 116, 117, 118, 119, 120, 121]⟩
def k0 : Ln := newS 10 0 60 [(0, 5)]
def k1 : Ln := { k0 with e0 := { k0.e0 with wait := k0.e0.wait ++ nums k25 } }
def k2 : Ln := passN 1 k1
def k3 : Ln := { k2 with e1 := { k2.e1 with arr := k2.e1.arr.drop 100 } }
def k4 : Ln := passN 2 k3
def k5 : Ln := { k4 with e1 := { k4.e1 with arr := k4.e1.arr.drop 100 } }
def k6 : Ln := passN 2 k5
def k7 : Ln := passN 55 k6
theorem kchk : chk 10 0 60 [(0, 5)] = 0 := by decide
theorem k2_now : k2.now = 1 := by rw [k2, passN_now]; rfl
theorem k3_now : k3.now = 1 := k2_now
theorem k4_now : k4.now = 3 := by rw [k4, passN_now, k3_now]; rfl
theorem k5_now : k5.now = 3 := k4_now
theorem k6_now : k6.now = 5 := by rw [k6, passN_now, k5_now]; rfl
theorem k7_now : k7.now = 60 := by rw [k7, passN_now, k6_now]; rfl
theorem ok_k0 : Ok k0 := ok_new kchk
theorem ok_k1 : Ok k1 := by
  have h := ok_k0
  exact ⟨h.r1, h.r2, h.d1, h.d2, h.p1, h.p2, h.ws, h.now1, h.now2, h.ses1, h.ses2, by decide, by decide, h.w0, h.w1⟩
theorem ok_recv {S : Ln} (k : Nat) (h : Ok S) : Ok { S with e1 := { S.e1 with arr := S.e1.arr.drop k } } := by
  have := h.n0
  exact ⟨h.r1, h.r2, h.d1, h.d2, h.p1, h.p2, h.ws, h.now1, h.now2, h.ses1, h.ses2, by simp only [List.length_drop]; omega, h.n1, h.w0, h.w1⟩
theorem ok_k2 : Ok k2 := ok_passN ok_k1 1 (by decide)
theorem ok_k3 : Ok k3 := ok_recv 100 ok_k2
theorem ok_k4 : Ok k4 := ok_passN ok_k3 2 (by rw [k3_now]; decide)
theorem ok_k5 : Ok k5 := ok_recv 100 ok_k4
theorem ok_k6 : Ok k6 := ok_passN ok_k5 2 (by rw [k5_now]; decide)
theorem k2_arr : k2.e1.arr = [97, 98, 99, 100, 101, 102, 103, 104, 105, 106] := by kernel_rfl
theorem k4_arr : k4.e1.arr = [107, 108, 109, 110, 111, 112, 113, 114, 115, 116, 117, 118, 119, 120, 121] := by kernel_rfl
theorem k6_up : k6.up = false := by kernel_rfl
theorem k7_up : k7.up = true := by kernel_rfl
theorem k7_ses : k7.ses = 2 := by kernel_rfl
end Go.Lin
