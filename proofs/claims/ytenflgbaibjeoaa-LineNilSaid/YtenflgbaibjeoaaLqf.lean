/- LineNil: what the functions of lines say of nil; the walk. -/
import Derived.Test.YtenflgbaibjeoaaLnw
namespace Go.Proofs.Ytenflgbaibjeoaa
open Go Go.RowKit Go.Bul Go.Thg Go.Lin
set_option maxRecDepth 20000
theorem nil_now (w : World) : Calls Try.prog 26 #[.pointer none] w fun e w' => e = .returned (.int .i64 0) ∧ w = w' := by
  go_enter Try.func26, Try.ntmps26
  go_wp2_with fail
  go_ret
  exact ⟨rfl, rfl⟩
theorem nil_up (w : World) : Calls Try.prog 27 #[.pointer none] w fun e w' => e = .returned (.bool false) ∧ w = w' := by
  go_enter Try.func27, Try.ntmps27
  go_wp2_with fail
  go_ret
  exact ⟨rfl, rfl⟩
theorem nil_ses (w : World) : Calls Try.prog 19 #[.pointer none] w fun e w' => e = .returned (.int .i64 0) ∧ w = w' := by
  go_enter Try.func19, Try.ntmps19
  go_wp2_with fail
  go_ret
  exact ⟨rfl, rfl⟩
theorem nil_send (s : Int) (t : ByteArray) (w : World) : Calls Try.prog 16 #[.pointer none, .int .i64 s, .string t] w fun e w' => e = .returned (.int .i64 1) ∧ w = w' := by
  go_enter Try.func16, Try.ntmps16
  go_wp2_with fail
  go_ret
  exact ⟨rfl, rfl⟩
theorem nil_recv (s n : Int) (w : World) : Calls Try.prog 18 #[.pointer none, .int .i64 s, .int .i64 n] w fun e w' => e = .returned (.tuple #[.string ⟨#[]⟩, .int .i64 1]) ∧ w = w' := by
  go_enter Try.func18, Try.ntmps18
  go_wp2_with fail
  go_ret2
  exact ⟨rfl, rfl⟩
theorem nil_wait (s : Int) (w : World) : Calls Try.prog 36 #[.pointer none, .int .i64 s] w fun e w' => e = .returned (.int .i64 0) ∧ w = w' := by
  go_enter Try.func36, Try.ntmps36
  go_wp2_with fail
  go_ret
  exact ⟨rfl, rfl⟩
theorem nil_way (s : Int) (w : World) : Calls Try.prog 37 #[.pointer none, .int .i64 s] w fun e w' => e = .returned (.int .i64 0) ∧ w = w' := by
  go_enter Try.func37, Try.ntmps37
  go_wp2_with fail
  go_ret
  exact ⟨rfl, rfl⟩
theorem nil_adv (n : Int) (w : World) : Calls Try.prog 17 #[.pointer none, .int .i64 n] w fun e w' => e = .returned (.int .i64 1) ∧ w = w' := by
  go_enter Try.func17, Try.ntmps17
  go_wp2_with fail
  go_ret
  exact ⟨rfl, rfl⟩
theorem nil_drop (w : World) : Calls Try.prog 29 #[.pointer none] w fun e w' => e = .returned (.int .i64 1) ∧ w = w' := by
  go_enter Try.func29, Try.ntmps29
  go_wp2_with fail
  go_ret
  exact ⟨rfl, rfl⟩
theorem nil_clone (w : World) : Calls Try.prog 39 #[.pointer none] w fun e w' => e = .returned (.pointer none) ∧ w = w' := by
  go_enter Try.func39, Try.ntmps39
  go_wp2_with fail
  go_ret
  exact ⟨rfl, rfl⟩
theorem nil_equal (w : World) : Calls Try.prog 40 #[.pointer none, .pointer none] w fun e w' => e = .returned (.bool true) ∧ w = w' := by
  go_enter Try.func40, Try.ntmps40
  go_wp2_with fail
  go_ret
  exact ⟨rfl, rfl⟩
set_option maxHeartbeats 4000000 in
theorem linenil_any (s n : Int) (w : World) : Calls Try.prog 13 #[.int .i64 s, .int .i64 n] w fun e w' => e = .returned (.bool true) ∧ Below w.heap.size w w' := by
  have hM := Mem.start [] w
  go_enter Try.func13, Try.ntmps13
  go_wp2_with (first | ((with_reducible refine (known_any _).mono ?_); rintro e w1 ⟨rfl, hb⟩; replace hM := hM.step hb; clear hb) | ((first | with_reducible refine (nil_recv _ _ _).mono ?_ | with_reducible refine (nil_now _).mono ?_ | with_reducible refine (nil_up _).mono ?_ | with_reducible refine (nil_ses _).mono ?_ | with_reducible refine (nil_send _ _ _).mono ?_ | with_reducible refine (nil_wait _ _).mono ?_ | with_reducible refine (nil_way _ _).mono ?_ | with_reducible refine (nil_adv _ _).mono ?_ | with_reducible refine (nil_drop _).mono ?_ | with_reducible refine (nil_clone _).mono ?_ | with_reducible refine (nil_equal _).mono ?_); rintro e w1 ⟨rfl, rfl⟩))
  go_ret
  exact ⟨rfl, hM.below⟩
end Go.Proofs.Ytenflgbaibjeoaa
