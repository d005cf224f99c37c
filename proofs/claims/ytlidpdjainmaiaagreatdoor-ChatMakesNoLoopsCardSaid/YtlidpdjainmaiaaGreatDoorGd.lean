/- Strings in walks: their bytes as numbers; indexing. -/
import Derived.Test.YtlidpdjainmaiaaGreatDoorGe
import Derived.Laws.Strings3
import Derived.Laws.Concat
namespace Go.Cht
open Go Go.Bul
theorem num_at (s : ByteArray) (k : Nat) (h : k < s.size) : (nums s).getD k 0 = s[k].toNat := by
  have : k < s.data.size := h
  simp only [nums, List.getD_eq_getElem?_getD, List.getElem?_map, Array.getElem?_toList]
  rw [Array.getElem?_eq_getElem this]
  rfl
theorem nums_extract (s : ByteArray) (a b : Nat) : nums (s.extract a b) = ((nums s).take b).drop a := by
  simp only [nums, ByteArray.data_extract, Array.toList_extract, List.extract_eq_take_drop, List.map_take, List.map_drop]
  rw [List.drop_take]
theorem nums_append (a b : ByteArray) : nums (a ++ b) = nums a ++ nums b := by
  simp [nums, ByteArray.data_append]
theorem nums_nil : nums ⟨#[]⟩ = [] := rfl
theorem nums_mk (l : List UInt8) : nums ⟨l.toArray⟩ = l.map UInt8.toNat := by simp [nums]
theorem nums_inj {a b : ByteArray} (h : nums a = nums b) : a = b := by rw [← bstr_of_nums a, ← bstr_of_nums b, h]
theorem size_extract (s : ByteArray) (a b : Nat) (h : b ≤ s.size) : (s.extract a b).size = b - a := by rw [ByteArray.size_extract]; omega
theorem isEmpty_no {s : ByteArray} (h : 0 < s.size) : s.toList.isEmpty = false := by
  rw [ByteArray.toList_eq]
  cases hd : s.data.toList with
  | nil =>
    have : s.size = 0 := by show s.data.size = 0; rw [← Array.length_toList, hd]; rfl
    omega
  | cons a l => rfl
theorem str_eq (a b : ByteArray) : (a.toList == b.toList) = (nums a == nums b) := by
  rw [toList_eq]
  by_cases h : a = b
  · subst h; simp
  · have : ¬ nums a = nums b := fun h2 => h (nums_inj h2)
    simp [h, this]
end Go.Cht
namespace Go.Proofs.YtlidpdjainmaiaaGreatDoor
open Go Go.RowKit Go.Bul Go.Thg Go.Cht
section
variable {w : World} {ops : Array Oper} {rest : List Oper} {o : Oper} {a : Act} {Q : Exit → Act → World → Prop} {dst : Option Tmp} {type : TypeId} {pos : String} {after : Array Edge} {x y : Operand} {t : TypeId} {g : Nat × Bool}
theorem at_ix (h : wpList Tryz.prog ops Q (⟨dst, .index t x y, type, pos, after, none⟩ :: rest) a w) : wpList Tryz.prog ops Q (⟨dst, .index t x y, type, pos, after, none⟩ :: rest) a w := h
theorem at_ix_g (hw : Region.wanted ⟨dst, .index t x y, type, pos, after, some g⟩ (yielded ops a.tmps) = true) (h : wpList Tryz.prog ops Q (⟨dst, .index t x y, type, pos, after, none⟩ :: rest) a w) : wpList Tryz.prog ops Q (⟨dst, .index t x y, type, pos, after, some g⟩ :: rest) a w := wpList_wanted hw h
theorem run_six {s : ByteArray} {i : Int} {k c : Nat} (hi : i = (k : Nat)) (hk : k < s.size) (hc : (nums s).getD k 0 = c) (w : World) : (Instr.index 9 (.string s) (.int .i64 i)).run Tryz.prog w = .ok (.int .u8 (c : Nat)) w := by
  subst hi
  rw [run_index_string w _ s .i64 _ Tryz.underlying9, dif_pos ⟨by omega, by omega⟩, ← hc, num_at s k hk]
  rfl
/-- A byte of a string. -/
theorem gix {s : ByteArray} {i : Int} {k c : Nat} (hk : k < s.size) (hc : (nums s).getD k 0 = c) (hi : i = (k : Nat)) (h : wpList Tryz.prog ops Q rest (a.put o.dst (.int .u8 (c : Nat))) w) (hgd : o.guard = none := by rfl) (ho : o.op = .index 9 x y := by rfl) (hx : a.eval x = .string s := by rfl) (hy : a.eval y = .int .i64 i := by rfl) : wpList Tryz.prog ops Q (o :: rest) a w :=
  wpList_plain hgd fun K hK => by
    unfold Oper.wp execOp
    simp only [ho, hx, hy, Sem.run_bind, Sem.run_pure, Result.andThen_ok, run_six hi hk hc]
    exact hK _ _ h
end
end Go.Proofs.YtlidpdjainmaiaaGreatDoor
