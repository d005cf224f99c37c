/- Texts out of bytes; hexadecimal. No program. -/
import Derived.Test.YtcfojkecmchbdaaDoorShb
import Derived.Laws.BytesArg
import Derived.Laws.Strings
import Derived.Laws.StructEq
namespace Go.Bul
open Go
/-- the text of bytes -/
def bstr (l : List Nat) : ByteArray := ⟨(l.map UInt8.ofNat).toArray⟩
def hexd (n : Nat) : Nat := if n < 10 then 48 + n else 87 + n
def hexs (l : List Nat) : List Nat := l.flatMap fun b => [hexd (b / 16), hexd (b % 16)]
theorem bstr_size (l : List Nat) : (bstr l).size = l.length := by simp [bstr, ByteArray.size]
theorem bstr_nums (l : List Nat) : strOfNums (l.map fun (n : Nat) => (n : Int)) = bstr l := by
  simp [strOfNums, bstr]
theorem bstr_toList (l : List Nat) : (bstr l).data.toList = l.map UInt8.ofNat := by simp [bstr]
theorem ofNat_inj {a b : Nat} (ha : a < 256) (hb : b < 256) (h : UInt8.ofNat a = UInt8.ofNat b) : a = b := by
  have := congrArg UInt8.toNat h
  simp [UInt8.toNat_ofNat'] at this
  omega
theorem map_ofNat_inj : ∀ {l m : List Nat}, Bytes l → Bytes m → l.map UInt8.ofNat = m.map UInt8.ofNat → l = m
  | [], [], _, _, _ => rfl
  | [], _ :: _, _, _, h => by simp at h
  | _ :: _, [], _, _, h => by simp at h
  | a :: l, b :: m, hl, hm, h => by
    simp only [List.map_cons, List.cons.injEq] at h
    obtain ⟨h1, h2⟩ := h
    rw [ofNat_inj (hl a (by simp)) (hm b (by simp)) h1, map_ofNat_inj (fun x hx => hl x (by simp [hx])) (fun x hx => hm x (by simp [hx])) h2]
theorem bstr_inj {l m : List Nat} (hl : Bytes l) (hm : Bytes m) (h : bstr l = bstr m) : l = m := by
  refine map_ofNat_inj hl hm ?_
  rw [← bstr_toList, ← bstr_toList, h]
/-- every text is that of its bytes -/
def nums (s : ByteArray) : List Nat := s.data.toList.map UInt8.toNat
theorem bstr_of_nums (s : ByteArray) : bstr (nums s) = s := by
  have h : (nums s).map UInt8.ofNat = s.data.toList := by
    unfold nums
    rw [List.map_map]
    conv => rhs; rw [← List.map_id s.data.toList]
    refine List.map_congr_left fun x _ => ?_
    simp
  unfold bstr
  rw [h]
theorem bytes_of_nums (s : ByteArray) : Bytes (nums s) := by
  intro x hx
  simp only [nums, List.mem_map] at hx
  obtain ⟨y, _, rfl⟩ := hx
  exact UInt8.toNat_lt y
theorem nums_length (s : ByteArray) : (nums s).length = s.size := by simp [nums]
theorem nums_bstr {l : List Nat} (hl : Bytes l) : nums (bstr l) = l := bstr_inj (bytes_of_nums _) hl (bstr_of_nums _)
theorem toList_eq (a b : ByteArray) : (a.toList == b.toList) = decide (a = b) := by
  by_cases h : a = b
  · subst h; simp
  · have : ¬ (a.toList = b.toList) := by
      intro h2
      apply h
      rw [ByteArray.toList_eq, ByteArray.toList_eq] at h2
      cases a; cases b
      simp at h2
      rw [h2]
    simp [h, this]
theorem bstr_eq {l m : List Nat} (hl : Bytes l) (hm : Bytes m) : ((bstr l).toList == (bstr m).toList) = (l == m) := by
  rw [toList_eq]
  by_cases h : l = m
  · subst h; simp
  · have : ¬ bstr l = bstr m := fun h2 => h (bstr_inj hl hm h2)
    simp [h, this]
theorem hexd_lt {n : Nat} (h : n < 16) : hexd n < 256 := by unfold hexd; split <;> omega
theorem hexs_bytes {l : List Nat} (h : Bytes l) : Bytes (hexs l) := by
  intro x hx
  simp only [hexs, List.mem_flatMap, List.mem_cons, List.not_mem_nil, or_false] at hx
  obtain ⟨b, hb, hx⟩ := hx
  have := h b hb
  rcases hx with rfl | rfl
  · exact hexd_lt (by omega)
  · exact hexd_lt (by omega)
theorem hexs_length (l : List Nat) : (hexs l).length = 2 * l.length := by
  induction l with
  | nil => rfl
  | cons a l ih => simp only [hexs, List.flatMap_cons, List.length_append, List.length_cons, List.length_nil] at ih ⊢; omega
theorem hexs_take (l : List Nat) (k : Nat) (h : k < l.length) : hexs (l.take k) ++ [hexd (l.getD k 0 / 16), hexd (l.getD k 0 % 16)] = hexs (l.take (k + 1)) := by
  rw [List.take_succ_eq_append_getElem h]
  simp only [hexs, List.flatMap_append, List.flatMap_cons, List.flatMap_nil, List.append_nil, List.getD, List.getElem?_eq_getElem h, Option.getD_some]
end Go.Bul
