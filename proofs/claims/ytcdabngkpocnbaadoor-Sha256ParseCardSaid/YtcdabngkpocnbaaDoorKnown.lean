/- Contract of bulletinlaw05's known and cut. Condition: the table of constants lies in its variable. -/
import Derived.Test.YtcdabngkpocnbaaDoorSum
import Derived.Test.YtcdabngkpocnbaaDoorHex
import Derived.Lib.SlBytesConst
import Derived.Lib.SmallJoins
namespace Go.Proofs.YtcdabngkpocnbaaDoor
open Go Go.RowKit Go.Bul
theorem known0 : bstr (hexs (sha [])) = { data := #[101, 51, 98, 48, 99, 52, 52, 50, 57, 56, 102, 99, 49, 99, 49, 52, 57, 97, 102, 98, 102, 52, 99, 56, 57, 57, 54, 102, 98, 57, 50, 52, 50, 55, 97, 101, 52, 49, 101, 52, 54, 52, 57, 98, 57, 51, 52, 99, 97, 52, 57, 53, 57, 57, 49, 98, 55, 56, 53, 50, 98, 56, 53, 53] } := by
  rw [sha_eval, show hexs (shaE []) = [101, 51, 98, 48, 99, 52, 52, 50, 57, 56, 102, 99, 49, 99, 49, 52, 57, 97, 102, 98, 102, 52, 99, 56, 57, 57, 54, 102, 98, 57, 50, 52, 50, 55, 97, 101, 52, 49, 101, 52, 54, 52, 57, 98, 57, 51, 52, 99, 97, 52, 57, 53, 57, 57, 49, 98, 55, 56, 53, 50, 98, 56, 53, 53] by decide +kernel]
  kernel_rfl
theorem known1 : bstr (hexs (sha [97, 98, 99])) = { data := #[98, 97, 55, 56, 49, 54, 98, 102, 56, 102, 48, 49, 99, 102, 101, 97, 52, 49, 52, 49, 52, 48, 100, 101, 53, 100, 97, 101, 50, 50, 50, 51, 98, 48, 48, 51, 54, 49, 97, 51, 57, 54, 49, 55, 55, 97, 57, 99, 98, 52, 49, 48, 102, 102, 54, 49, 102, 50, 48, 48, 49, 53, 97, 100] } := by
  rw [sha_eval, show hexs (shaE [97, 98, 99]) = [98, 97, 55, 56, 49, 54, 98, 102, 56, 102, 48, 49, 99, 102, 101, 97, 52, 49, 52, 49, 52, 48, 100, 101, 53, 100, 97, 101, 50, 50, 50, 51, 98, 48, 48, 51, 54, 49, 97, 51, 57, 54, 49, 55, 55, 97, 57, 99, 98, 52, 49, 48, 102, 102, 54, 49, 102, 50, 48, 48, 49, 53, 97, 100] by decide +kernel]
  kernel_rfl
theorem known2 : bstr (hexs (sha [97, 98, 99, 100, 98, 99, 100, 101, 99, 100, 101, 102, 100, 101, 102, 103, 101, 102, 103, 104, 102, 103, 104, 105, 103, 104, 105, 106, 104, 105, 106, 107, 105, 106, 107, 108, 106, 107, 108, 109, 107, 108, 109, 110, 108, 109, 110, 111, 109, 110, 111, 112, 110, 111, 112, 113])) = { data := #[50, 52, 56, 100, 54, 97, 54, 49, 100, 50, 48, 54, 51, 56, 98, 56, 101, 53, 99, 48, 50, 54, 57, 51, 48, 99, 51, 101, 54, 48, 51, 57, 97, 51, 51, 99, 101, 52, 53, 57, 54, 52, 102, 102, 50, 49, 54, 55, 102, 54, 101, 99, 101, 100, 100, 52, 49, 57, 100, 98, 48, 54, 99, 49] } := by
  rw [sha_eval, show hexs (shaE [97, 98, 99, 100, 98, 99, 100, 101, 99, 100, 101, 102, 100, 101, 102, 103, 101, 102, 103, 104, 102, 103, 104, 105, 103, 104, 105, 106, 104, 105, 106, 107, 105, 106, 107, 108, 106, 107, 108, 109, 107, 108, 109, 110, 108, 109, 110, 111, 109, 110, 111, 112, 110, 111, 112, 113]) = [50, 52, 56, 100, 54, 97, 54, 49, 100, 50, 48, 54, 51, 56, 98, 56, 101, 53, 99, 48, 50, 54, 57, 51, 48, 99, 51, 101, 54, 48, 51, 57, 97, 51, 51, 99, 101, 52, 53, 57, 54, 52, 102, 102, 50, 49, 54, 55, 102, 54, 101, 99, 101, 100, 100, 52, 49, 57, 100, 98, 48, 54, 99, 49] by decide +kernel]
  kernel_rfl
theorem Rd.marked {w : World} {ok : Nat → Prop} {t : TypeId} {g : Nat} {xs : List Nat} {m : Nat × Nat} (h : w.heap[g]? = some (.cells (cellsOf .u8 xs) t m)) (hb : Bytes xs) (ho : ok g) : Rd w ok (some ⟨g, 0, none⟩) xs.length xs :=
  ⟨rfl, hb, fun _ => ⟨_, rfl, ho, (Array.getElem?_eq_some_iff.1 h).1, fun j hj => by rw [addr_at, Nat.zero_add, cell_of_row w g j _ t m h, cellsOf_get _ _ _ hj]⟩⟩
theorem known_any (w : World) (hT : Tab w) : Calls Tryd.prog 13 #[] w fun e w' => e = .returned (.bool true) ∧ Below w.heap.size w w' := by
  have kc := fun (w : World) (C : Array Value) (n c : Nat) => Lib.run_convert_bytes_const (P := Tryd.prog) w 22 5 C n c Tryd.underlying22 Tryd.underlying5
  go_enter Tryd.func13, Tryd.ntmps13
  go_wp2_with fail
  (with_reducible refine (sum_any [] none 0 0 (fun _ => True) w (Rd.nil _ _ _) (by omega) (by omega) hT).mono ?_)
  rintro e w1 ⟨rfl, hb1⟩
  go_wp2_with fail
  (with_reducible refine (string_any (sha []) w1 (sha_length _) (bytes_sha _)).mono ?_)
  rintro e w2 ⟨rfl, hb2⟩
  have k2 := Below.step hb1 hb2
  rw [known0]
  go_wp2_with fail
  have k3 := Below.alloc k2 k2.size (.cells (cellsOf .u8 [97, 98, 99]) 5 (3, 4))
  (refine (sum_any [97, 98, 99] (some ⟨w2.heap.size, 0, none⟩) 3 3 (fun _ => True) _ (Rd.marked (xs := [97, 98, 99]) (heap_alloc_new w2 _) (by unfold Bytes; decide) trivial) (by omega) (by omega) (hT.keep k3)).mono ?_)
  rintro e w3 ⟨rfl, hb3⟩
  have k4 := Below.step k3 hb3
  go_wp2_with fail
  (with_reducible refine (string_any (sha [97, 98, 99]) w3 (sha_length _) (bytes_sha _)).mono ?_)
  rintro e w4 ⟨rfl, hb4⟩
  have k5 := Below.step k4 hb4
  rw [known1]
  clear k2 k3 k4 hb1 hb2 hb3 hb4
  go_wp2_with fail
  have k6 := Below.alloc k5 k5.size (.cells (cellsOf .u8 [97, 98, 99, 100, 98, 99, 100, 101, 99, 100, 101, 102, 100, 101, 102, 103, 101, 102, 103, 104, 102, 103, 104, 105, 103, 104, 105, 106, 104, 105, 106, 107, 105, 106, 107, 108, 106, 107, 108, 109, 107, 108, 109, 110, 108, 109, 110, 111, 109, 110, 111, 112, 110, 111, 112, 113]) 5 (56, 57))
  (refine (sum_any [97, 98, 99, 100, 98, 99, 100, 101, 99, 100, 101, 102, 100, 101, 102, 103, 101, 102, 103, 104, 102, 103, 104, 105, 103, 104, 105, 106, 104, 105, 106, 107, 105, 106, 107, 108, 106, 107, 108, 109, 107, 108, 109, 110, 108, 109, 110, 111, 109, 110, 111, 112, 110, 111, 112, 113] (some ⟨w4.heap.size, 0, none⟩) 56 56 (fun _ => True) _ (Rd.marked (xs := [97, 98, 99, 100, 98, 99, 100, 101, 99, 100, 101, 102, 100, 101, 102, 103, 101, 102, 103, 104, 102, 103, 104, 105, 103, 104, 105, 106, 104, 105, 106, 107, 105, 106, 107, 108, 106, 107, 108, 109, 107, 108, 109, 110, 108, 109, 110, 111, 109, 110, 111, 112, 110, 111, 112, 113]) (heap_alloc_new w4 _) (by unfold Bytes; decide) trivial) (by omega) (by omega) (hT.keep k6)).mono ?_)
  rintro e w5 ⟨rfl, hb5⟩
  have k7 := Below.step k6 hb5
  go_wp2_with fail
  (with_reducible refine (string_any (sha [97, 98, 99, 100, 98, 99, 100, 101, 99, 100, 101, 102, 100, 101, 102, 103, 101, 102, 103, 104, 102, 103, 104, 105, 103, 104, 105, 106, 104, 105, 106, 107, 105, 106, 107, 108, 106, 107, 108, 109, 107, 108, 109, 110, 108, 109, 110, 111, 109, 110, 111, 112, 110, 111, 112, 113]) w5 (sha_length _) (bytes_sha _)).mono ?_)
  rintro e w6 ⟨rfl, hb6⟩
  have k8 := Below.step k7 hb6
  rw [known2]
  clear k5 k6 k7 hb5 hb6
  go_wp2_with fail
  go_ret
  exact ⟨rfl, k8⟩
theorem cut_any (A : Option Addr) (n c : Nat) (w : World) (hn : n ≤ c) (hl : c ≤ 9223372036854775807) :
    Calls Tryd.prog 11 #[.slice A n c] w fun e w' => e = .returned (.slice A (min n 500) c) ∧ w = w' := by
  go_enter Tryd.func11, Tryd.ntmps11
  have h5 : (n : Int) ≤ 500 ∨ (500 : Int) < n := by omega
  rcases h5 with h5 | h5
  · have hm : min n 500 = n := by omega
    go_wp2_with fail
    go_ret
    exact ⟨by rw [hm]; rfl, rfl⟩
  · have hm : min n 500 = 500 := by omega
    have hc : (500 : Int) ≤ (c : Int) := by omega
    go_wp2_with fail
    go_ret
    exact ⟨by rw [hm]; rfl, rfl⟩
theorem Rd.take {w : World} {ok : Nat → Prop} {A : Option Addr} {n : Nat} {bs : List Nat} (h : Rd w ok A n bs) (k : Nat) : Rd w ok A (min n k) (bs.take k) := by
  refine ⟨by rw [List.length_take, h.len]; omega, h.bytes.take k, fun h0 => ?_⟩
  obtain ⟨ad, hA, ho, hlt, hc⟩ := h.at_ (by omega)
  refine ⟨ad, hA, ho, hlt, fun j hj => ?_⟩
  rw [hc j (by omega)]
  congr 2
  simp [List.getD, show j < k by omega]
end Go.Proofs.YtcdabngkpocnbaaDoor
