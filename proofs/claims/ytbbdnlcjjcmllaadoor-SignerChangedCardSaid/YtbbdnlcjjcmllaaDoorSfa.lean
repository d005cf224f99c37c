/- What comes in: signatures; the two tables that a row of layer 8 lists. -/
import Derived.Test.YtbbdnlcjjcmllaaDoorFrmc
import Derived.Test.YtbbdnlcjjcmllaaDoorWd
import Derived.LaidSub
import Derived.ChangeSame
import Derived.ChangeSlices
namespace Go.Lin
open Go Go.Bul
end Go.Lin
namespace Go.Proofs.YtbbdnlcjjcmllaaDoor
open Go Go.RowKit Go.WideShapes Go.ChangeShapes Go.ChangeAt Go.Bul Go.Thg Go.Lin
section
variable {H : Type} {enc : TypeId × Value → H} {P : Program}
end

section
variable {H : Type} {enc : TypeId × Value → H}
end
abbrev laid2 : List (String × DataW Unit) := [("bulletin/base64.alphabet", Rows.laid_bulletin_base64_alphabet), ("bulletin/sha256.constants", Rows.laid_bulletin_sha256_constants)]
theorem tab_of2 {W : World} (h : laidMetH Tryd.prog laid2 W) : Tab W := by
  have h1 := laidMetH.filter (fun x => x.1 == "bulletin/sha256.constants") h
  have e : laid2.filter (fun x => x.1 == "bulletin/sha256.constants") = [("bulletin/sha256.constants", Rows.laid_bulletin_sha256_constants)] := by simp [laid2]
  rw [e] at h1
  exact tab_of h1
theorem gAlp : Tryd.prog.globalNamed "bulletin/base64.alphabet" = some 0 := by kernel_rfl
theorem gAlpType : (Tryd.prog.globals[0]?).map (·.type) = some 135 := by kernel_rfl
theorem alp_of2 {W : World} (h : laidMetH Tryd.prog laid2 W) : Alp W := by
  have ht : Lib.TabIs Tryd.prog W "bulletin/base64.alphabet" .u8 (alL.map fun (n : Nat) => (n : Int)) := Lib.tabIs_of_head (rest := [("bulletin/sha256.constants", Rows.laid_bulletin_sha256_constants)]) gAlp gAlpType Tryd.underlying135 Tryd.underlying5 cells_u8 (by kernel_rfl) h
  intro i hi
  have hl : alL.length = 64 := rfl
  rw [ht.cell gAlp i (by simp [hl]; exact hi)]
  simp [List.getD, alf, hl, hi]
/-- A world for the witnesses: the settled one, the tables holding what their initialisers lay. -/
noncomputable def laidWorld2 (os : Os) : World :=
  let w := World.holding Tryd.prog os ⟨#[], #[], []⟩
  { w with heap := (w.heap.modify 1 fun
      | .cells _ t frozen => .cells #[.int .u32 1116352408, .int .u32 1899447441, .int .u32 3049323471, .int .u32 3921009573, .int .u32 961987163, .int .u32 1508970993, .int .u32 2453635748, .int .u32 2870763221, .int .u32 3624381080, .int .u32 310598401, .int .u32 607225278, .int .u32 1426881987, .int .u32 1925078388, .int .u32 2162078206, .int .u32 2614888103, .int .u32 3248222580, .int .u32 3835390401, .int .u32 4022224774, .int .u32 264347078, .int .u32 604807628, .int .u32 770255983, .int .u32 1249150122, .int .u32 1555081692, .int .u32 1996064986, .int .u32 2554220882, .int .u32 2821834349, .int .u32 2952996808, .int .u32 3210313671, .int .u32 3336571891, .int .u32 3584528711, .int .u32 113926993, .int .u32 338241895, .int .u32 666307205, .int .u32 773529912, .int .u32 1294757372, .int .u32 1396182291, .int .u32 1695183700, .int .u32 1986661051, .int .u32 2177026350, .int .u32 2456956037, .int .u32 2730485921, .int .u32 2820302411, .int .u32 3259730800, .int .u32 3345764771, .int .u32 3516065817, .int .u32 3600352804, .int .u32 4094571909, .int .u32 275423344, .int .u32 430227734, .int .u32 506948616, .int .u32 659060556, .int .u32 883997877, .int .u32 958139571, .int .u32 1322822218, .int .u32 1537002063, .int .u32 1747873779, .int .u32 1955562222, .int .u32 2024104815, .int .u32 2227730452, .int .u32 2361852424, .int .u32 2428436474, .int .u32 2756734187, .int .u32 3204031479, .int .u32 3329325298] t frozen
      | o => o).modify 0 fun
      | .cells _ t frozen => .cells #[.int .u8 65, .int .u8 66, .int .u8 67, .int .u8 68, .int .u8 69, .int .u8 70, .int .u8 71, .int .u8 72, .int .u8 73, .int .u8 74, .int .u8 75, .int .u8 76, .int .u8 77, .int .u8 78, .int .u8 79, .int .u8 80, .int .u8 81, .int .u8 82, .int .u8 83, .int .u8 84, .int .u8 85, .int .u8 86, .int .u8 87, .int .u8 88, .int .u8 89, .int .u8 90, .int .u8 97, .int .u8 98, .int .u8 99, .int .u8 100, .int .u8 101, .int .u8 102, .int .u8 103, .int .u8 104, .int .u8 105, .int .u8 106, .int .u8 107, .int .u8 108, .int .u8 109, .int .u8 110, .int .u8 111, .int .u8 112, .int .u8 113, .int .u8 114, .int .u8 115, .int .u8 116, .int .u8 117, .int .u8 118, .int .u8 119, .int .u8 120, .int .u8 121, .int .u8 122, .int .u8 48, .int .u8 49, .int .u8 50, .int .u8 51, .int .u8 52, .int .u8 53, .int .u8 54, .int .u8 55, .int .u8 56, .int .u8 57, .int .u8 43, .int .u8 47] t frozen
      | o => o }
end Go.Proofs.YtbbdnlcjjcmllaaDoor
