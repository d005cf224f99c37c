/- Contracts of ascii's skip at hexadecimal digits and of Unhex's closures. Conditions: bytes below 256. -/
import Derived.Test.YtcdabngkpocnbaaDoorHex
import Derived.Lib.Bytealg
namespace Go.Bul
open Go
def hexB (c : Nat) : Bool := (Nat.ble 48 c && Nat.ble c 57) || (Nat.ble 97 c && Nat.ble c 102)
def hval (c : Nat) : Nat := if c < 58 then c - 48 else c - 87
def hidx (c : Nat) : Int := if hexB c then (hval c : Nat) else -1
def hexDs : List UInt8 := [48, 49, 50, 51, 52, 53, 54, 55, 56, 57, 97, 98, 99, 100, 101, 102]
theorem hidx_eq (c : Nat) (hc : c < 256) : Lib.indexByte hexDs (c : Int).toNat.toUInt8 = hidx c := by
  have : ∀ c : Fin 256, Lib.indexByte hexDs ((c.1 : Nat) : Int).toNat.toUInt8 = hidx c.1 := by decide +kernel
  exact this ⟨c, hc⟩
theorem hexB_iff (c : Nat) : hexB c = true ↔ (48 ≤ c ∧ c ≤ 57) ∨ (97 ≤ c ∧ c ≤ 102) := by
  simp [hexB]
theorem hval_lt {c : Nat} (h : hexB c = true) : hval c < 16 := by
  rw [hexB_iff] at h
  unfold hval; split <;> omega
theorem hval_hexd {n : Nat} (h : n < 16) : hexB (hexd n) = true ∧ hval (hexd n) = n := by
  rw [hexB_iff]
  unfold hexd hval
  by_cases h1 : n < 10
  · rw [if_pos h1]; constructor
    · omega
    · rw [if_pos (by omega)]; omega
  · rw [if_neg h1]; constructor
    · omega
    · rw [if_neg (by omega)]; omega
end Go.Bul
namespace Go.Proofs.YtcdabngkpocnbaaDoor
open Go Go.RowKit Go.Bul
theorem index_hex (c : Nat) (hc : c < 256) (v : Int) (hv : hidx c = v) (w : World) :
    Calls Tryd.prog 41 #[.string { data := #[48, 49, 50, 51, 52, 53, 54, 55, 56, 57, 97, 98, 99, 100, 101, 102] }, .int .u8 (c : Nat)] w fun e w' => e = .returned (.int .i64 v) ∧ w = w' := by
  have hr := fun (w : World) => Lib.run_indexByteString (P := Tryd.prog) { data := #[48, 49, 50, 51, 52, 53, 54, 55, 56, 57, 97, 98, 99, 100, 101, 102] } (c : Int) w
  have he : Lib.indexByte ({ data := #[48, 49, 50, 51, 52, 53, 54, 55, 56, 57, 97, 98, 99, 100, 101, 102] } : ByteArray).data.toList (c : Int).toNat.toUInt8 = v := (hidx_eq c hc).trans hv
  rw [he] at hr
  have HV := Lib.hid hv
  clear hv he
  go_enter Tryd.func41, Tryd.ntmps41
  go_wp2
  rw [run_callFunc_extern Tryd.func47 (by kernel_rfl) (by kernel_rfl) (by kernel_rfl) (e := Extern.BytealgIndexByte.indexByte) (by kernel_rfl), hr]
  simp only [Result.andThen]
  rw [Oper.upon_value]
  go_wp2
  go_ret
  exact ⟨rfl, rfl⟩
theorem isHex_yes (c : Nat) (hc : c < 256) (h : hexB c = true) (w : World) :
    Calls Tryd.prog 40 #[.int .u8 (c : Nat)] w fun e w' => e = .returned (.bool true) ∧ w = w' := by
  have hi := index_hex c hc (hval c : Nat) (by rw [hidx, if_pos h]) w
  have HI := Lib.hid hi
  clear h hi
  go_enter Tryd.func40, Tryd.ntmps40
  go_wp2_with fail
  (with_reducible refine HI.out.mono ?_)
  rintro e w' ⟨rfl, rfl⟩
  go_wp2_with fail
  go_ret
  exact ⟨rfl, rfl⟩
theorem isHex_no (c : Nat) (hc : c < 256) (h : hexB c = false) (w : World) :
    Calls Tryd.prog 40 #[.int .u8 (c : Nat)] w fun e w' => e = .returned (.bool false) ∧ w = w' := by
  have hi := index_hex c hc (-1) (by rw [hidx, if_neg (by simp [h])]) w
  have HI := Lib.hid hi
  clear h hi
  go_enter Tryd.func40, Tryd.ntmps40
  go_wp2_with fail
  (with_reducible refine HI.out.mono ?_)
  rintro e w' ⟨rfl, rfl⟩
  go_wp2_with fail
  go_ret
  exact ⟨rfl, rfl⟩
theorem hexVal (c : Nat) (hc : c < 256) (h : hexB c = true) (w : World) :
    Calls Tryd.prog 43 #[.int .u8 (c : Nat)] w fun e w' => e = .returned (.int .u8 (hval c : Nat)) ∧ w = w' := by
  have hi := index_hex c hc (hval c : Nat) (by rw [hidx, if_pos h]) w
  have hl := hval_lt h
  have HI := Lib.hid hi
  clear h hi
  obtain ⟨v, hv⟩ : ∃ v, v = hval c := ⟨_, rfl⟩
  rw [← hv] at hl HI ⊢
  clear hv
  have hm : IntKind.u8.wrap (v : Int) = (v : Int) := by rw [IntKind.wrap_u8]; omega
  go_enter Tryd.func43, Tryd.ntmps43
  go_wp2_with fail
  (with_reducible refine HI.out.mono ?_)
  rintro e w' ⟨rfl, rfl⟩
  go_wp2_with fail
  go_ret
  exact ⟨by simp; try omega, rfl⟩
/-- Where skip stops. -/
def SkipTo (s : ByteArray) (w : World) (e : Ending) (w' : World) : Prop :=
  ∃ k : Nat, k ≤ s.size ∧ (∀ j, j < k → hexB ((nums s).getD j 0) = true) ∧ (k < s.size → hexB ((nums s).getD k 0) = false) ∧ e = .returned (.int .i64 (k : Nat)) ∧ w = w'
theorem nums_get (s : ByteArray) (k : Nat) (h : k < s.size) : (nums s).getD k 0 = s[k].toNat := by
  have : k < s.data.toList.length := by simpa using h
  simp only [nums, List.getD, List.getElem?_map, List.getElem?_eq_getElem this]
  rfl
set_option maxHeartbeats 400000 in
theorem skip_hex (s : ByteArray) (w : World) (hs : s.size ≤ 9223372036854775807) :
    Calls Tryd.prog 42 #[.string s, .int .i64 0, .func (.func 40) #[] #[]] w (SkipTo s w) := by
  go_enter Tryd.func42, Tryd.ntmps42
  go_wp2_with fail
  go_loop [1] (fun t => ∃ k : Nat, k ≤ s.size ∧ t = .int .i64 (k : Nat) ∧ (∀ j, j < k → hexB ((nums s).getD j 0) = true)) (fun t => s.size - (intOf t).toNat)
  case atStart => exact ⟨0, by omega, rfl, fun j hj => by omega⟩
  case round =>
    obtain ⟨k, hk, rfl, hall⟩ := hrel
    have HA := Lib.hid hall
    clear hall
    by_cases hlt : k < s.size
    · have hg := nums_get s k hlt
      have hcb : s[k].toNat < 256 := UInt8.toNat_lt _
      cases hx : hexB (s[k].toNat) with
      | true =>
        have HX := Lib.hid hx
        have HG := Lib.hid hg
        clear hx hg
        go_wp2_with (first
          | ((with_reducible refine (isHex_yes _ hcb HX.out w).mono ?_); rintro e w' ⟨rfl, rfl⟩))
        have hall := HA.out
        refine ⟨⟨k + 1, by omega, by go_num, fun j hj => ?_⟩, by simp [intOf]; omega⟩
        rcases (show j < k ∨ j = k by omega) with h | h
        · exact hall j h
        · rw [h, HG.out]; exact HX.out
      | false =>
        have HX := Lib.hid hx
        have HG := Lib.hid hg
        clear hx hg
        go_wp2_with (first
          | ((with_reducible refine (isHex_no _ hcb HX.out w).mono ?_); rintro e w' ⟨rfl, rfl⟩))
        go_ret
        exact ⟨k, hk, HA.out, fun _ => by rw [HG.out]; exact HX.out, rfl, rfl⟩
    · obtain rfl : k = s.size := by omega
      go_wp2_with fail
      go_ret
      exact ⟨s.size, hk, HA.out, fun h => by omega, rfl, rfl⟩
end Go.Proofs.YtcdabngkpocnbaaDoor
