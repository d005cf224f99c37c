/- Seat c: structs by their cells; types; the laws of the walk. (Printed by mkc.py.) -/
import Derived.Test.YtlidpdjainmaiaaGreatDoorNga
import Derived.Test.YtlidpdjainmaiaaGreatDoorXe
namespace Go.Lin
open Go Go.Bul
/-- The bytes of an id of this law; the cells of a struct that begins with one. -/
def idL (j : Nat) : List Nat := j :: 1 :: List.replicate 30 0
def stC (j : Nat) (tl : List Value) : Array Value := (vals .u8 (idL j) ++ tl).toArray
theorem id_len (j : Nat) : (vals .u8 (idL j)).length = 32 := by rw [vals_length]; simp [idL]
theorem idL_inj {i j : Nat} : idL i = idL j ↔ i = j := by simp [idL]
theorem stC_size (j : Nat) (tl : List Value) : (stC j tl).size = 32 + tl.length := by rw [stC, List.size_toArray, List.length_append, id_len]
theorem stC_nil (j : Nat) : stC j [] = cellsOf .u8 (idL j) := by simp [stC, cellsOf]
theorem stC_get (j : Nat) (tl : List Value) {k : Nat} (h : 32 ≤ k) : (stC j tl)[k]? = tl[k - 32]? := by
  simp only [stC, List.getElem?_toArray]
  rw [List.getElem?_append_right (by rw [id_len]; exact h), id_len]
theorem stC_id (j : Nat) (tl : List Value) : (stC j tl).extract 0 (0 + 32) = stC j [] := by
  apply Array.ext'
  simp only [stC, List.extract_toArray, List.extract_eq_take_drop, List.drop_zero, Nat.sub_zero, Nat.zero_add, List.append_nil]
  rw [List.take_append_of_le_length (by rw [id_len]; omega), List.take_of_length_le (by rw [id_len]; omega)]
theorem stC_39 (j : Nat) (a b c d e f g h i k : Value) : (stC j [a, b, c, d, e, f, g, h, i, k]).extract 0 (0 + 39) = stC j [a, b, c, d, e, f, g] := by
  apply Array.ext'
  simp only [stC, List.extract_toArray, List.extract_eq_take_drop, List.drop_zero, Nat.sub_zero, Nat.zero_add]
  rw [List.take_append, id_len, List.take_of_length_le (by rw [id_len]; omega)]
  rfl
theorem stC_set34 (j : Nat) (a b c d v : Value) : (stC j [a, b, c, d]).setIfInBounds 34 v = stC j [a, b, v, d] := by
  apply Array.ext'
  simp only [stC, List.setIfInBounds_toArray]
  rw [List.set_append_right _ _ (by rw [id_len]; omega), id_len]
  rfl
theorem stC_one {j : Nat} {tl : List Value} (h : tl.all (fun u => u.oneCell') = true) : ∀ u ∈ (stC j tl).toList, u.oneCell' = true := by
  intro u hu
  rcases List.mem_append.1 hu with hu | hu
  · exact vals_one _ _ u hu
  · exact List.all_eq_true.1 h u hu
theorem all_one {cs : Array Value} (h : cs.toList.all (fun u => u.oneCell') = true) : ∀ u ∈ cs.toList, u.oneCell' = true := fun u hu => List.all_eq_true.1 h u hu
theorem get_1_0 (a : Value) : (#[a] : Array Value)[0]? = some a := rfl
theorem get_2_0 (a b : Value) : (#[a, b] : Array Value)[0]? = some a := rfl
theorem get_2_1 (a b : Value) : (#[a, b] : Array Value)[1]? = some b := rfl
theorem get_3_0 (a b c : Value) : (#[a, b, c] : Array Value)[0]? = some a := rfl
theorem get_3_1 (a b c : Value) : (#[a, b, c] : Array Value)[1]? = some b := rfl
theorem get_3_2 (a b c : Value) : (#[a, b, c] : Array Value)[2]? = some c := rfl
theorem get_4_0 (a b c d : Value) : (#[a, b, c, d] : Array Value)[0]? = some a := rfl
theorem get_4_1 (a b c d : Value) : (#[a, b, c, d] : Array Value)[1]? = some b := rfl
theorem get_4_2 (a b c d : Value) : (#[a, b, c, d] : Array Value)[2]? = some c := rfl
theorem get_4_3 (a b c d : Value) : (#[a, b, c, d] : Array Value)[3]? = some d := rfl
theorem set_1_0 (a v : Value) : (#[a] : Array Value).setIfInBounds 0 v = #[v] := rfl
theorem set_2_0 (a b v : Value) : (#[a, b] : Array Value).setIfInBounds 0 v = #[v, b] := rfl
theorem set_2_1 (a b v : Value) : (#[a, b] : Array Value).setIfInBounds 1 v = #[a, v] := rfl
theorem set_3_0 (a b c v : Value) : (#[a, b, c] : Array Value).setIfInBounds 0 v = #[v, b, c] := rfl
theorem set_3_1 (a b c v : Value) : (#[a, b, c] : Array Value).setIfInBounds 1 v = #[a, v, c] := rfl
theorem set_3_2 (a b c v : Value) : (#[a, b, c] : Array Value).setIfInBounds 2 v = #[a, b, v] := rfl
theorem set_4_0 (a b c d v : Value) : (#[a, b, c, d] : Array Value).setIfInBounds 0 v = #[v, b, c, d] := rfl
theorem set_4_1 (a b c d v : Value) : (#[a, b, c, d] : Array Value).setIfInBounds 1 v = #[a, v, c, d] := rfl
theorem set_4_2 (a b c d v : Value) : (#[a, b, c, d] : Array Value).setIfInBounds 2 v = #[a, b, v, d] := rfl
theorem set_4_3 (a b c d v : Value) : (#[a, b, c, d] : Array Value).setIfInBounds 3 v = #[a, b, c, v] := rfl
theorem get_7_0 (a0 a1 a2 a3 a4 a5 a6 : Value) : (#[a0, a1, a2, a3, a4, a5, a6] : Array Value)[0]? = some a0 := rfl
theorem set_7_0 (a0 a1 a2 a3 a4 a5 a6 v : Value) : (#[a0, a1, a2, a3, a4, a5, a6] : Array Value).setIfInBounds 0 v = #[v, a1, a2, a3, a4, a5, a6] := rfl
theorem get_7_1 (a0 a1 a2 a3 a4 a5 a6 : Value) : (#[a0, a1, a2, a3, a4, a5, a6] : Array Value)[1]? = some a1 := rfl
theorem set_7_1 (a0 a1 a2 a3 a4 a5 a6 v : Value) : (#[a0, a1, a2, a3, a4, a5, a6] : Array Value).setIfInBounds 1 v = #[a0, v, a2, a3, a4, a5, a6] := rfl
theorem get_7_2 (a0 a1 a2 a3 a4 a5 a6 : Value) : (#[a0, a1, a2, a3, a4, a5, a6] : Array Value)[2]? = some a2 := rfl
theorem set_7_2 (a0 a1 a2 a3 a4 a5 a6 v : Value) : (#[a0, a1, a2, a3, a4, a5, a6] : Array Value).setIfInBounds 2 v = #[a0, a1, v, a3, a4, a5, a6] := rfl
theorem get_7_3 (a0 a1 a2 a3 a4 a5 a6 : Value) : (#[a0, a1, a2, a3, a4, a5, a6] : Array Value)[3]? = some a3 := rfl
theorem set_7_3 (a0 a1 a2 a3 a4 a5 a6 v : Value) : (#[a0, a1, a2, a3, a4, a5, a6] : Array Value).setIfInBounds 3 v = #[a0, a1, a2, v, a4, a5, a6] := rfl
theorem get_7_4 (a0 a1 a2 a3 a4 a5 a6 : Value) : (#[a0, a1, a2, a3, a4, a5, a6] : Array Value)[4]? = some a4 := rfl
theorem set_7_4 (a0 a1 a2 a3 a4 a5 a6 v : Value) : (#[a0, a1, a2, a3, a4, a5, a6] : Array Value).setIfInBounds 4 v = #[a0, a1, a2, a3, v, a5, a6] := rfl
theorem get_7_5 (a0 a1 a2 a3 a4 a5 a6 : Value) : (#[a0, a1, a2, a3, a4, a5, a6] : Array Value)[5]? = some a5 := rfl
theorem set_7_5 (a0 a1 a2 a3 a4 a5 a6 v : Value) : (#[a0, a1, a2, a3, a4, a5, a6] : Array Value).setIfInBounds 5 v = #[a0, a1, a2, a3, a4, v, a6] := rfl
theorem get_7_6 (a0 a1 a2 a3 a4 a5 a6 : Value) : (#[a0, a1, a2, a3, a4, a5, a6] : Array Value)[6]? = some a6 := rfl
theorem set_7_6 (a0 a1 a2 a3 a4 a5 a6 v : Value) : (#[a0, a1, a2, a3, a4, a5, a6] : Array Value).setIfInBounds 6 v = #[a0, a1, a2, a3, a4, a5, v] := rfl
/-- A struct of several fields is filled from its front. -/
theorem splice_id (i j : Nat) (tl : List Value) : (splice (stC i tl).toList 0 (Value.cells (.agg (stC j []))).toList).toArray = stC j tl := by
  have h := splice_at [] (vals .u8 (idL i)) tl (vals .u8 (idL j)) (by simp only [id_len])
  simp only [List.nil_append, List.length_nil] at h
  simp only [stC, Value.cells, List.append_nil]
  rw [h]
theorem splice_tl (j : Nat) (A : List Value) (u : Value) (B : List Value) (v : Value) (h1 : v.oneCell' = true) {k : Nat} (hk : 32 + A.length = k) : (splice (stC j (A ++ u :: B)).toList k (Value.cells v).toList).toArray = stC j (A ++ v :: B) := by
  have hc : v.cells = #[v] := by cases v <;> simp_all [Value.cells, Value.oneCell']
  have h := splice_at (vals .u8 (idL j) ++ A) [u] B [v] rfl
  rw [List.length_append, id_len, hk] at h
  rw [hc]
  simp only [stC, List.append_assoc, List.singleton_append] at h ⊢
  rw [h]
end Go.Lin
namespace Go.Proofs.YtlidpdjainmaiaaGreatDoor
open Go Go.RowKit Go.Bul Go.Thg Go.Lin
theorem row_id : RowTy Tryz.prog 45 32 := ⟨⟨_, Tryz.underlying45, rfl, by kernel_rfl⟩⟩
theorem row_line : RowTy Tryz.prog 37 3 := ⟨⟨_, Tryz.underlying37, rfl, by kernel_rfl⟩⟩
theorem row_gate : RowTy Tryz.prog 57 7 := ⟨⟨_, Tryz.underlying57, rfl, by kernel_rfl⟩⟩
theorem row_post : RowTy Tryz.prog 48 36 := ⟨⟨_, Tryz.underlying48, rfl, by kernel_rfl⟩⟩
theorem row_room : RowTy Tryz.prog 31 4 := ⟨⟨_, Tryz.underlying31, rfl, by kernel_rfl⟩⟩
theorem row_said : RowTy Tryz.prog 35 4 := ⟨⟨_, Tryz.underlying35, rfl, by kernel_rfl⟩⟩
theorem row_rms : RowTy Tryz.prog 32 2 := ⟨⟨_, Tryz.underlying32, rfl, by kernel_rfl⟩⟩
theorem row_bld : RowTy Tryz.prog 63 2 := ⟨⟨_, Tryz.underlying63, rfl, by kernel_rfl⟩⟩
theorem one_int : OneTy Tryz.prog 3 := ⟨⟨_, Tryz.underlying3, rfl, by kernel_rfl⟩⟩
theorem one_bool : OneTy Tryz.prog 4 := ⟨⟨_, Tryz.underlying4, rfl, by kernel_rfl⟩⟩
theorem one_u8 : OneTy Tryz.prog 5 := ⟨⟨_, Tryz.underlying5, rfl, by kernel_rfl⟩⟩
theorem one_i32 : OneTy Tryz.prog 21 := ⟨⟨_, Tryz.underlying21, rfl, by kernel_rfl⟩⟩
theorem one_str : OneTy Tryz.prog 9 := ⟨⟨_, Tryz.underlying9, rfl, by kernel_rfl⟩⟩
theorem one_errno : OneTy Tryz.prog 25 := ⟨⟨_, Tryz.underlying25, rfl, by kernel_rfl⟩⟩
theorem one_pgate : OneTy Tryz.prog 24 := ⟨⟨_, Tryz.underlying24, rfl, by kernel_rfl⟩⟩
theorem one_proom : OneTy Tryz.prog 28 := ⟨⟨_, Tryz.underlying28, rfl, by kernel_rfl⟩⟩
theorem one_sline : OneTy Tryz.prog 29 := ⟨⟨_, Tryz.underlying29, rfl, by kernel_rfl⟩⟩
theorem one_sstr : OneTy Tryz.prog 33 := ⟨⟨_, Tryz.underlying33, rfl, by kernel_rfl⟩⟩
theorem one_ssaid : OneTy Tryz.prog 22 := ⟨⟨_, Tryz.underlying22, rfl, by kernel_rfl⟩⟩
theorem one_su8 : OneTy Tryz.prog 61 := ⟨⟨_, Tryz.underlying61, rfl, by kernel_rfl⟩⟩
theorem one_mid : OneTy Tryz.prog 55 := ⟨⟨_, Tryz.underlying55, rfl, by kernel_rfl⟩⟩
theorem one_mstr : OneTy Tryz.prog 93 := ⟨⟨_, Tryz.underlying93, rfl, by kernel_rfl⟩⟩
theorem one_fe : OneTy Tryz.prog 38 := ⟨⟨_, Tryz.underlying38, rfl, by kernel_rfl⟩⟩
theorem one_sfe : OneTy Tryz.prog 86 := ⟨⟨_, Tryz.underlying86, rfl, by kernel_rfl⟩⟩
theorem one_fse : OneTy Tryz.prog 54 := ⟨⟨_, Tryz.underlying54, rfl, by kernel_rfl⟩⟩
theorem one_pbld : OneTy Tryz.prog 60 := ⟨⟨_, Tryz.underlying60, rfl, by kernel_rfl⟩⟩
theorem one_ffis : OneTy Tryz.prog 89 := ⟨⟨_, Tryz.underlying89, rfl, by kernel_rfl⟩⟩
theorem one_ffir : OneTy Tryz.prog 97 := ⟨⟨_, Tryz.underlying97, rfl, by kernel_rfl⟩⟩
theorem one_fis : OneTy Tryz.prog 106 := ⟨⟨_, Tryz.underlying106, rfl, by kernel_rfl⟩⟩
theorem one_fir : OneTy Tryz.prog 111 := ⟨⟨_, Tryz.underlying111, rfl, by kernel_rfl⟩⟩
theorem zero_id : ZeroTy Tryz.prog 45 32 (cellsOf .u8 (List.replicate 32 0)) := ⟨⟨.agg _, by kernel_rfl, rfl, by simp⟩⟩
theorem zero_line : ZeroTy Tryz.prog 37 3 #[.int .i64 0, .string ⟨#[]⟩, .string ⟨#[]⟩] := ⟨⟨.agg _, by kernel_rfl, rfl, rfl⟩⟩
theorem zero_bld : ZeroTy Tryz.prog 63 2 #[.pointer none, .slice none 0 0] := ⟨⟨.agg _, by kernel_rfl, rfl, rfl⟩⟩
theorem zero_int : ZeroTy Tryz.prog 3 1 #[.int .i64 0] := ⟨⟨.int .i64 0, by kernel_rfl, rfl, rfl⟩⟩
theorem zero_u8 : ZeroTy Tryz.prog 5 1 #[.int .u8 0] := ⟨⟨.int .u8 0, by kernel_rfl, rfl, rfl⟩⟩
theorem zero_i32 : ZeroTy Tryz.prog 21 1 #[.int .i32 0] := ⟨⟨.int .i32 0, by kernel_rfl, rfl, rfl⟩⟩
theorem zero_bool : ZeroTy Tryz.prog 4 1 #[.bool false] := ⟨⟨.bool false, by kernel_rfl, rfl, rfl⟩⟩
theorem zero_str : ZeroTy Tryz.prog 9 1 #[.string ⟨#[]⟩] := ⟨⟨.string ⟨#[]⟩, by kernel_rfl, rfl, rfl⟩⟩
theorem zero_errno : ZeroTy Tryz.prog 25 1 #[.int .i64 0] := ⟨⟨.int .i64 0, by kernel_rfl, rfl, rfl⟩⟩
theorem zero_sline : ZeroTy Tryz.prog 29 1 #[.slice none 0 0] := ⟨⟨.slice none 0 0, by kernel_rfl, rfl, rfl⟩⟩
theorem zero_su8 : ZeroTy Tryz.prog 61 1 #[.slice none 0 0] := ⟨⟨.slice none 0 0, by kernel_rfl, rfl, rfl⟩⟩
theorem zero_sstr : ZeroTy Tryz.prog 33 1 #[.slice none 0 0] := ⟨⟨.slice none 0 0, by kernel_rfl, rfl, rfl⟩⟩
theorem zero_fse : ZeroTy Tryz.prog 54 1 #[.nilFunc] := ⟨⟨.nilFunc, by kernel_rfl, rfl, rfl⟩⟩
theorem zero_mid : ZeroTy Tryz.prog 55 1 #[.map none] := ⟨⟨.map none, by kernel_rfl, rfl, rfl⟩⟩
theorem zero_rms : ZeroTy Tryz.prog 32 2 #[.pointer none, .pointer none] := ⟨⟨.agg _, by kernel_rfl, rfl, rfl⟩⟩
section
variable {w w0 : World} {G : List Nat} {L : List Ent} {R : List Thing} {ops : Array Oper} {rest : List Oper} {o : Oper} {a : Act} {Q : Exit → Act → World → Prop} {C : World → Prop} {ty : TypeId} {x y : Operand} {g i m n : Nat} {t : TypeId} {cs vs X : Array Value} {v : Value} {F : Array Value → List Ent}
/-! The laws of the walk, with all their conditions found by themselves. -/
theorem nlc (hM : Mem G w0 L R w) (h : wpList Tryz.prog ops Q rest (a.put o.dst v) w) (hgd : o.guard = none := by rfl) (ho : o.op = .load ty x := by rfl) (hx : a.eval x = .pointer (some ⟨g, i, none⟩) := by rfl) (hL : ⟨g, t, n, cs⟩ ∈ L := by repeat (first | exact List.Mem.head _ | assumption | apply List.Mem.tail)) (hty : OneTy Tryz.prog ty := by first | exact one_int | exact one_bool | exact one_u8 | exact one_i32 | exact one_str | exact one_errno | exact one_pgate | exact one_proom | exact one_sline | exact one_sstr | exact one_ssaid | exact one_su8 | exact one_mid | exact one_mstr | exact one_fe | exact one_sfe | exact one_fse | exact one_pbld | exact one_ffis | exact one_ffir | exact one_fis | exact one_fir) (hv : cs[i]? = some v := by first | with_reducible exact get_1_0 _  | with_reducible exact get_2_0 _ _  | with_reducible exact get_2_1 _ _  | with_reducible exact get_3_0 _ _ _  | with_reducible exact get_3_1 _ _ _  | with_reducible exact get_3_2 _ _ _  | with_reducible exact get_4_0 _ _ _ _  | with_reducible exact get_4_1 _ _ _ _  | with_reducible exact get_4_2 _ _ _ _  | with_reducible exact get_4_3 _ _ _ _  | with_reducible exact get_7_0 _ _ _ _ _ _ _  | with_reducible exact get_7_1 _ _ _ _ _ _ _  | with_reducible exact get_7_2 _ _ _ _ _ _ _  | with_reducible exact get_7_3 _ _ _ _ _ _ _  | with_reducible exact get_7_4 _ _ _ _ _ _ _  | with_reducible exact get_7_5 _ _ _ _ _ _ _  | with_reducible exact get_7_6 _ _ _ _ _ _ _  | exact (stC_get _ _ (by decide)).trans rfl | rfl) : wpList Tryz.prog ops Q (o :: rest) a w :=
  wpList_mem_cell hM hgd ty x ho g i hx t n cs hL hty v hv h
theorem nll (hM : Mem G w0 L R w) (h : wpList Tryz.prog ops Q rest (a.put o.dst (.agg cs)) w) (hgd : o.guard = none := by rfl) (ho : o.op = .load ty x := by rfl) (hx : a.eval x = .pointer (some ⟨g, 0, none⟩) := by rfl) (hL : ⟨g, t, n, cs⟩ ∈ L := by repeat (first | exact List.Mem.head _ | assumption | apply List.Mem.tail)) (hty : RowTy Tryz.prog ty n := by first | exact row_id | exact row_line | exact row_gate | exact row_post | exact row_room | exact row_said | exact row_rms | exact row_bld) : wpList Tryz.prog ops Q (o :: rest) a w :=
  wpList_mem_load hM hgd ty x ho g hx t n cs hL hty h
theorem nlp (hM : Mem G w0 L R w) (h : wpList Tryz.prog ops Q rest (a.put o.dst (.agg X)) w) (hgd : o.guard = none := by rfl) (ho : o.op = .load ty x := by rfl) (hx : a.eval x = .pointer (some ⟨g, i, none⟩) := by rfl) (hL : ⟨g, t, n, cs⟩ ∈ L := by repeat (first | exact List.Mem.head _ | assumption | apply List.Mem.tail)) (hty : RowTy Tryz.prog ty m := by first | exact row_id | exact row_line | exact row_gate | exact row_post | exact row_room | exact row_said | exact row_rms | exact row_bld) (hm : i + m ≤ n := by omega) (hX : cs.extract i (i + m) = X := by first | with_reducible exact stC_id _ _ | with_reducible exact stC_39 _ _ _ _ _ _ _ _ _ _ _ | exact stC_id _ _ | rfl) : wpList Tryz.prog ops Q (o :: rest) a w :=
  wpList_mem_part hM hgd ty x ho g i hx t n cs hL m hty hm X hX h
theorem nls (hM : Mem G w0 L R w) (h : ∀ w', Mem G w0 (F X) R w' → wpList Tryz.prog ops Q rest a w') (hgd : o.guard = none := by rfl) (ho : o.op = .store ty x y := by rfl) (hx : a.eval x = .pointer (some ⟨g, i, none⟩) := by rfl) (hy : a.eval y = v := by (go_simp; rfl)) (hL : UpdL g t n cs L F := by repeat (first | exact UpdL.head _ _ _ _ _ | assumption | apply UpdL.tail)) (hty : OneTy Tryz.prog ty := by first | exact one_int | exact one_bool | exact one_u8 | exact one_i32 | exact one_str | exact one_errno | exact one_pgate | exact one_proom | exact one_sline | exact one_sstr | exact one_ssaid | exact one_su8 | exact one_mid | exact one_mstr | exact one_fe | exact one_sfe | exact one_fse | exact one_pbld | exact one_ffis | exact one_ffir | exact one_fis | exact one_fir) (hi : i < n := by omega) (h1 : v.oneCell' = true := by rfl) (hdst : o.dst = none := by rfl) (hX : cs.setIfInBounds i v = X := by first | with_reducible exact set_1_0 _ _ | with_reducible exact set_2_0 _ _ _  | with_reducible exact set_2_1 _ _ _  | with_reducible exact set_3_0 _ _ _ _  | with_reducible exact set_3_1 _ _ _ _  | with_reducible exact set_3_2 _ _ _ _  | with_reducible exact set_4_0 _ _ _ _ _  | with_reducible exact set_4_1 _ _ _ _ _  | with_reducible exact set_4_2 _ _ _ _ _  | with_reducible exact set_4_3 _ _ _ _ _  | with_reducible exact set_7_0 _ _ _ _ _ _ _ _  | with_reducible exact set_7_1 _ _ _ _ _ _ _ _  | with_reducible exact set_7_2 _ _ _ _ _ _ _ _  | with_reducible exact set_7_3 _ _ _ _ _ _ _ _  | with_reducible exact set_7_4 _ _ _ _ _ _ _ _  | with_reducible exact set_7_5 _ _ _ _ _ _ _ _  | with_reducible exact set_7_6 _ _ _ _ _ _ _ _  | rfl) : wpList Tryz.prog ops Q (o :: rest) a w :=
  wpList_mem_set_to hM hgd ty x y ho g i hx v hy t n cs F hL hty hi h1 hdst X hX h
theorem nlw (hM : Mem G w0 L R w) (h : ∀ w', Mem G w0 (F vs) R w' → wpList Tryz.prog ops Q rest a w') (hgd : o.guard = none := by rfl) (ho : o.op = .store ty x y := by rfl) (hx : a.eval x = .pointer (some ⟨g, 0, none⟩) := by rfl) (hy : a.eval y = .agg vs := by rfl) (hL : UpdL g t n cs L F := by repeat (first | exact UpdL.head _ _ _ _ _ | assumption | apply UpdL.tail)) (hty : RowTy Tryz.prog ty n := by first | exact row_id | exact row_line | exact row_gate | exact row_post | exact row_room | exact row_said | exact row_rms | exact row_bld) (hs : vs.size = n := by first | with_reducible exact stC_size _ _ | exact (stC_size _ _).trans rfl | rfl) (h1 : ∀ v ∈ vs.toList, v.oneCell' = true := by first | exact stC_one rfl | exact all_one rfl) (hdst : o.dst = none := by rfl) : wpList Tryz.prog ops Q (o :: rest) a w :=
  wpList_mem_store hM hgd ty x y ho g hx vs hy t n cs F hL hty hs h1 hdst h
theorem nlt (hM : Mem G w0 L R w) (h : ∀ w', Mem G w0 (F X) R w' → wpList Tryz.prog ops Q rest a w') (hgd : o.guard = none := by rfl) (ho : o.op = .store ty x y := by rfl) (hx : a.eval x = .pointer (some ⟨g, i, none⟩) := by rfl) (hy : a.eval y = .agg vs := by rfl) (hL : UpdL g t n cs L F := by repeat (first | exact UpdL.head _ _ _ _ _ | assumption | apply UpdL.tail)) (hty : RowTy Tryz.prog ty m := by first | exact row_id | exact row_line | exact row_gate | exact row_post | exact row_room | exact row_said | exact row_rms | exact row_bld) (hs : vs.size = m := by first | with_reducible exact stC_size _ _ | exact (stC_size _ _).trans rfl | rfl) (hm : i + m ≤ n := by omega) (h1 : ∀ v ∈ vs.toList, v.oneCell' = true := by first | exact stC_one rfl | exact all_one rfl) (hdst : o.dst = none := by rfl) (hX : (splice cs.toList i vs.toList).toArray = X := by rfl) : wpList Tryz.prog ops Q (o :: rest) a w :=
  wpList_mem_store_part hM hgd ty x y ho g i hx vs hy t n cs F hL m hty hs hm h1 hdst X hX h
theorem nlz (hM : Mem G w0 L R w) (h : ∀ g w', Mem G w0 (⟨g, ty, n, cs⟩ :: L) R w' → wpList Tryz.prog ops Q rest (a.put o.dst (.pointer (some ⟨g, 0, none⟩))) w') (hgd : o.guard = none := by rfl) (ho : o.op = .alloc ty := by rfl) (hz : ZeroTy Tryz.prog ty n cs := by first | exact zero_id | exact zero_line | exact zero_bld | exact zero_int | exact zero_u8 | exact zero_i32 | exact zero_bool | exact zero_str | exact zero_errno | exact zero_sline | exact zero_su8 | exact zero_sstr | exact zero_fse | exact zero_mid | exact zero_rms) : wpList Tryz.prog ops Q (o :: rest) a w :=
  wpList_mem_zero hM hgd ty ho n cs hz h
theorem nlb (hM : Mem G w0 L R w) (h : ∀ g w', Mem G w0 (⟨g, ty, n, cs⟩ :: L) R w' → wpList Tryz.prog ops Q rest (a.put o.dst (.pointer (some ⟨g, 0, none⟩))) w') (hgd : o.guard = none := by rfl) (ho : o.op = .box ty x := by rfl) (hx : a.eval x = .agg cs := by rfl) (hty : RowTy Tryz.prog ty n := by first | exact row_id | exact row_line | exact row_gate | exact row_post | exact row_room | exact row_said | exact row_rms | exact row_bld) (hn : cs.size = n := by first | with_reducible exact stC_size _ _ | exact (stC_size _ _).trans rfl | rfl) : wpList Tryz.prog ops Q (o :: rest) a w :=
  wpList_mem_box hM hgd ty x ho cs hx n hty hn h
theorem nlx (hM : Mem G w0 L R w) (h : ∀ g w', Mem G w0 (⟨g, ty, 1, #[v]⟩ :: L) R w' → wpList Tryz.prog ops Q rest (a.put o.dst (.pointer (some ⟨g, 0, none⟩))) w') (hgd : o.guard = none := by rfl) (ho : o.op = .box ty x := by rfl) (hx : a.eval x = v := by rfl) (h1 : v.oneCell' = true := by rfl) : wpList Tryz.prog ops Q (o :: rest) a w := by
  have hc : v.cells = #[v] := by cases v <;> simp_all [Value.cells, Value.oneCell']
  refine wpList_plain hgd fun K hK => ?_
  unfold Oper.wp execOp
  simp only [ho, hx, Instr.box, newVar, newRow, newObj, Sem.run_bind, Sem.run_pure, hc]
  exact hK _ _ (h _ _ (hM.alloc _ _ rfl))
theorem nqc (hM : Mem G w0 L R w) (ho : o.op = .load ty x := by rfl) (hx : a.eval x = .pointer (some ⟨g, i, none⟩) := by rfl) (hL : ⟨g, t, n, cs⟩ ∈ L := by repeat (first | exact List.Mem.head _ | assumption | apply List.Mem.tail)) (hty : OneTy Tryz.prog ty := by first | exact one_int | exact one_bool | exact one_u8 | exact one_i32 | exact one_str | exact one_errno | exact one_pgate | exact one_proom | exact one_sline | exact one_sstr | exact one_ssaid | exact one_su8 | exact one_mid | exact one_mstr | exact one_fe | exact one_sfe | exact one_fse | exact one_pbld | exact one_ffis | exact one_ffir | exact one_fis | exact one_fir) (hv : cs[i]? = some v := by first | with_reducible exact get_1_0 _  | with_reducible exact get_2_0 _ _  | with_reducible exact get_2_1 _ _  | with_reducible exact get_3_0 _ _ _  | with_reducible exact get_3_1 _ _ _  | with_reducible exact get_3_2 _ _ _  | with_reducible exact get_4_0 _ _ _ _  | with_reducible exact get_4_1 _ _ _ _  | with_reducible exact get_4_2 _ _ _ _  | with_reducible exact get_4_3 _ _ _ _  | with_reducible exact get_7_0 _ _ _ _ _ _ _  | with_reducible exact get_7_1 _ _ _ _ _ _ _  | with_reducible exact get_7_2 _ _ _ _ _ _ _  | with_reducible exact get_7_3 _ _ _ _ _ _ _  | with_reducible exact get_7_4 _ _ _ _ _ _ _  | with_reducible exact get_7_5 _ _ _ _ _ _ _  | with_reducible exact get_7_6 _ _ _ _ _ _ _  | exact (stC_get _ _ (by decide)).trans rfl | rfl) : o.quietAt Tryz.prog a C w v :=
  quietAt_mem_cell hM ty x ho g i hx t n cs hL hty v hv
theorem nql (hM : Mem G w0 L R w) (ho : o.op = .load ty x := by rfl) (hx : a.eval x = .pointer (some ⟨g, 0, none⟩) := by rfl) (hL : ⟨g, t, n, cs⟩ ∈ L := by repeat (first | exact List.Mem.head _ | assumption | apply List.Mem.tail)) (hty : RowTy Tryz.prog ty n := by first | exact row_id | exact row_line | exact row_gate | exact row_post | exact row_room | exact row_said | exact row_rms | exact row_bld) : o.quietAt Tryz.prog a C w (.agg cs) :=
  quietAt_mem_load hM ty x ho g hx t n cs hL hty
theorem nqp (hM : Mem G w0 L R w) (ho : o.op = .load ty x := by rfl) (hx : a.eval x = .pointer (some ⟨g, i, none⟩) := by rfl) (hL : ⟨g, t, n, cs⟩ ∈ L := by repeat (first | exact List.Mem.head _ | assumption | apply List.Mem.tail)) (hty : RowTy Tryz.prog ty m := by first | exact row_id | exact row_line | exact row_gate | exact row_post | exact row_room | exact row_said | exact row_rms | exact row_bld) (hm : i + m ≤ n := by omega) (hX : cs.extract i (i + m) = X := by first | with_reducible exact stC_id _ _ | with_reducible exact stC_39 _ _ _ _ _ _ _ _ _ _ _ | exact stC_id _ _ | rfl) : o.quietAt Tryz.prog a C w (.agg X) :=
  quietAt_mem_part hM ty x ho g i hx t n cs hL m hty hm X hX
/-- A struct read through a slice; a cell of it. -/
theorem nlr (hX : ∀ j u, X[j]? = some u → w.cell? ⟨g, i + j, none⟩ = some u) (h : wpList Tryz.prog ops Q rest (a.put o.dst (.agg X)) w) (hgd : o.guard = none := by rfl) (ho : o.op = .load ty x := by rfl) (hx : a.eval x = .pointer (some ⟨g, i, none⟩) := by rfl) (hty : RowTy Tryz.prog ty m := by first | exact row_id | exact row_line | exact row_gate | exact row_post | exact row_room | exact row_said | exact row_rms | exact row_bld) (hs : X.size = m := by first | with_reducible exact stC_size _ _ | exact (stC_size _ _).trans rfl | rfl) : wpList Tryz.prog ops Q (o :: rest) a w :=
  wpList_reads_load hgd ty x ho g i hx m hty X hs hX h
theorem nlo (hc : w.cell? ⟨g, i, none⟩ = some v) (h : wpList Tryz.prog ops Q rest (a.put o.dst v) w) (hgd : o.guard = none := by rfl) (ho : o.op = .load ty x := by rfl) (hx : a.eval x = .pointer (some ⟨g, i, none⟩) := by rfl) (hty : OneTy Tryz.prog ty := by first | exact one_int | exact one_bool | exact one_u8 | exact one_i32 | exact one_str | exact one_errno | exact one_pgate | exact one_proom | exact one_sline | exact one_sstr | exact one_ssaid | exact one_su8 | exact one_mid | exact one_mstr | exact one_fe | exact one_sfe | exact one_fse | exact one_pbld | exact one_ffis | exact one_ffir | exact one_fis | exact one_fir) : wpList Tryz.prog ops Q (o :: rest) a w :=
  wpList_one_load hgd ty x ho g i hx hty v hc h
theorem nqo (hc : w.cell? ⟨g, i, none⟩ = some v) (ho : o.op = .load ty x := by rfl) (hx : a.eval x = .pointer (some ⟨g, i, none⟩) := by rfl) (hty : OneTy Tryz.prog ty := by first | exact one_int | exact one_bool | exact one_u8 | exact one_i32 | exact one_str | exact one_errno | exact one_pgate | exact one_proom | exact one_sline | exact one_sstr | exact one_ssaid | exact one_su8 | exact one_mid | exact one_mstr | exact one_fe | exact one_sfe | exact one_fse | exact one_pbld | exact one_ffis | exact one_ffir | exact one_fis | exact one_fir) : o.quietAt Tryz.prog a C w v :=
  quietAt_one ty x ho g i hx hty v hc
end
/-- Two ids. -/
theorem eq_id (i j : Nat) (W : World) : (Op.equalIn 10000 45 (.agg (stC i [])) (.agg (stC j []))).run Tryz.prog W = .ok (decide (i = j)) W := by
  have h := run_equalIn_nums W 9998 (idL i) (idL j) Tryz.underlying45 Tryz.underlying5 (by kernel_rfl) (by simp [idL]) (by simp [idL])
  have e : (idL i == idL j) = decide (i = j) := by
    by_cases hxy : i = j
    · subst hxy; simp
    · have : ¬ idL i = idL j := fun h => hxy (idL_inj.1 h)
      simp [hxy, this]
  rw [e, ← stC_nil, ← stC_nil] at h
  exact h
end Go.Proofs.YtlidpdjainmaiaaGreatDoor
