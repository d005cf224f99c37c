/- Seat n: structs that begin with an id, by their cells; types; the laws of the walk. -/
import Derived.Test.YtpjphjokhccdaaaGreatNga
namespace Go.Lin
open Go Go.Bul
/-- The bytes of an id of this law; the cells of a struct that begins with one. -/
def idL (j : Nat) : List Nat := j :: List.replicate 31 0
def stC (j : Nat) (tl : List Value) : Array Value := (vals .u8 (idL j) ++ tl).toArray
theorem id_len (j : Nat) : (vals .u8 (idL j)).length = 32 := by rw [vals_length]; simp [idL]
theorem idL_inj {i j : Nat} : idL i = idL j ↔ i = j := by simp [idL]
theorem stC_size (j : Nat) (tl : List Value) : (stC j tl).size = 32 + tl.length := by rw [stC, List.size_toArray, List.length_append, id_len]
theorem stC_nil (j : Nat) : stC j [] = cellsOf .u8 (idL j) := by simp [stC, cellsOf]
theorem stC_get (j : Nat) (tl : List Value) {k : Nat} (h : 32 ≤ k) : (stC j tl)[k]? = tl[k - 32]? := by
  simp only [stC, List.getElem?_toArray]
  rw [List.getElem?_append_right (by rw [id_len]; exact h), id_len]
theorem stC_id (j : Nat) (tl : List Value) : (stC j tl).extract 0 (0 + 32) = stC j [] := by
  apply Array.ext'
  simp only [stC, List.extract_toArray, List.extract_eq_take_drop, List.drop_zero, Nat.sub_zero, Nat.zero_add, List.append_nil]
  rw [List.take_append_of_le_length (by rw [id_len]; omega), List.take_of_length_le (by rw [id_len]; omega)]
theorem stC_39 (j : Nat) (a b c d e f g h i k : Value) : (stC j [a, b, c, d, e, f, g, h, i, k]).extract 0 (0 + 39) = stC j [a, b, c, d, e, f, g] := by
  apply Array.ext'
  simp only [stC, List.extract_toArray, List.extract_eq_take_drop, List.drop_zero, Nat.sub_zero, Nat.zero_add]
  rw [List.take_append, id_len, List.take_of_length_le (by rw [id_len]; omega)]
  rfl
theorem stC_set34 (j : Nat) (a b c d v : Value) : (stC j [a, b, c, d]).setIfInBounds 34 v = stC j [a, b, v, d] := by
  apply Array.ext'
  simp only [stC, List.setIfInBounds_toArray]
  rw [List.set_append_right _ _ (by rw [id_len]; omega), id_len]
  rfl
theorem stC_one {j : Nat} {tl : List Value} (h : tl.all (fun u => u.oneCell') = true) : ∀ u ∈ (stC j tl).toList, u.oneCell' = true := by
  intro u hu
  rcases List.mem_append.1 hu with hu | hu
  · exact vals_one _ _ u hu
  · exact List.all_eq_true.1 h u hu
theorem all_one {cs : Array Value} (h : cs.toList.all (fun u => u.oneCell') = true) : ∀ u ∈ cs.toList, u.oneCell' = true := fun u hu => List.all_eq_true.1 h u hu
theorem get_1_0 (a : Value) : (#[a] : Array Value)[0]? = some a := rfl
theorem get_2_0 (a b : Value) : (#[a, b] : Array Value)[0]? = some a := rfl
theorem get_2_1 (a b : Value) : (#[a, b] : Array Value)[1]? = some b := rfl
theorem get_3_0 (a b c : Value) : (#[a, b, c] : Array Value)[0]? = some a := rfl
theorem get_3_1 (a b c : Value) : (#[a, b, c] : Array Value)[1]? = some b := rfl
theorem get_3_2 (a b c : Value) : (#[a, b, c] : Array Value)[2]? = some c := rfl
theorem get_4_0 (a b c d : Value) : (#[a, b, c, d] : Array Value)[0]? = some a := rfl
theorem get_4_1 (a b c d : Value) : (#[a, b, c, d] : Array Value)[1]? = some b := rfl
theorem get_4_2 (a b c d : Value) : (#[a, b, c, d] : Array Value)[2]? = some c := rfl
theorem get_4_3 (a b c d : Value) : (#[a, b, c, d] : Array Value)[3]? = some d := rfl
theorem set_1_0 (a v : Value) : (#[a] : Array Value).setIfInBounds 0 v = #[v] := rfl
theorem set_2_0 (a b v : Value) : (#[a, b] : Array Value).setIfInBounds 0 v = #[v, b] := rfl
theorem set_2_1 (a b v : Value) : (#[a, b] : Array Value).setIfInBounds 1 v = #[a, v] := rfl
theorem set_3_0 (a b c v : Value) : (#[a, b, c] : Array Value).setIfInBounds 0 v = #[v, b, c] := rfl
theorem set_3_1 (a b c v : Value) : (#[a, b, c] : Array Value).setIfInBounds 1 v = #[a, v, c] := rfl
theorem set_3_2 (a b c v : Value) : (#[a, b, c] : Array Value).setIfInBounds 2 v = #[a, b, v] := rfl
theorem set_4_0 (a b c d v : Value) : (#[a, b, c, d] : Array Value).setIfInBounds 0 v = #[v, b, c, d] := rfl
theorem set_4_1 (a b c d v : Value) : (#[a, b, c, d] : Array Value).setIfInBounds 1 v = #[a, v, c, d] := rfl
theorem set_4_2 (a b c d v : Value) : (#[a, b, c, d] : Array Value).setIfInBounds 2 v = #[a, b, v, d] := rfl
theorem set_4_3 (a b c d v : Value) : (#[a, b, c, d] : Array Value).setIfInBounds 3 v = #[a, b, c, v] := rfl
/-- A struct of several fields is filled from its front. -/
theorem splice_id (i j : Nat) (tl : List Value) : (splice (stC i tl).toList 0 (Value.cells (.agg (stC j []))).toList).toArray = stC j tl := by
  have h := splice_at [] (vals .u8 (idL i)) tl (vals .u8 (idL j)) (by simp only [id_len])
  simp only [List.nil_append, List.length_nil] at h
  simp only [stC, Value.cells, List.append_nil]
  rw [h]
theorem splice_tl (j : Nat) (A : List Value) (u : Value) (B : List Value) (v : Value) (h1 : v.oneCell' = true) {k : Nat} (hk : 32 + A.length = k) : (splice (stC j (A ++ u :: B)).toList k (Value.cells v).toList).toArray = stC j (A ++ v :: B) := by
  have hc : v.cells = #[v] := by cases v <;> simp_all [Value.cells, Value.oneCell']
  have h := splice_at (vals .u8 (idL j) ++ A) [u] B [v] rfl
  rw [List.length_append, id_len, hk] at h
  rw [hc]
  simp only [stC, List.append_assoc, List.singleton_append] at h ⊢
  rw [h]
end Go.Lin
namespace Go.Proofs.YtpjphjokhccdaaaGreat
open Go Go.RowKit Go.Bul Go.Thg Go.Lin
theorem row_id : RowTy Tryz.prog 38 32 := ⟨⟨_, Tryz.underlying38, rfl, by kernel_rfl⟩⟩
theorem row_hent : RowTy Tryz.prog 40 36 := ⟨⟨_, Tryz.underlying40, rfl, by kernel_rfl⟩⟩
theorem row_sent : RowTy Tryz.prog 56 34 := ⟨⟨_, Tryz.underlying56, rfl, by kernel_rfl⟩⟩
theorem row_art : RowTy Tryz.prog 85 3 := ⟨⟨_, Tryz.underlying85, rfl, by kernel_rfl⟩⟩
theorem row_artc : RowTy Tryz.prog 51 39 := ⟨⟨_, Tryz.underlying51, rfl, by kernel_rfl⟩⟩
theorem row_cand : RowTy Tryz.prog 113 42 := ⟨⟨_, Tryz.underlying113, rfl, by kernel_rfl⟩⟩
theorem row_reas : RowTy Tryz.prog 62 33 := ⟨⟨_, Tryz.underlying62, rfl, by kernel_rfl⟩⟩
theorem row_offr : RowTy Tryz.prog 45 2 := ⟨⟨_, Tryz.underlying45, rfl, by kernel_rfl⟩⟩
theorem row_rule : RowTy Tryz.prog 33 3 := ⟨⟨_, Tryz.underlying33, rfl, by kernel_rfl⟩⟩
theorem row_hist : RowTy Tryz.prog 71 2 := ⟨⟨_, Tryz.underlying71, rfl, by kernel_rfl⟩⟩
theorem row_spool : RowTy Tryz.prog 74 4 := ⟨⟨_, Tryz.underlying74, rfl, by kernel_rfl⟩⟩
theorem row_plan : RowTy Tryz.prog 108 4 := ⟨⟨_, Tryz.underlying108, rfl, by kernel_rfl⟩⟩
theorem row_rules : RowTy Tryz.prog 77 2 := ⟨⟨_, Tryz.underlying77, rfl, by kernel_rfl⟩⟩
theorem row_patt : RowTy Tryz.prog 128 2 := ⟨⟨_, Tryz.underlying128, rfl, by kernel_rfl⟩⟩
theorem row_u10 : RowTy Tryz.prog 24 10 := ⟨⟨_, Tryz.underlying24, rfl, by kernel_rfl⟩⟩
theorem row_u3 : RowTy Tryz.prog 25 3 := ⟨⟨_, Tryz.underlying25, rfl, by kernel_rfl⟩⟩
theorem row_star : RowTy Tryz.prog 131 0 := ⟨⟨_, Tryz.underlying131, rfl, by kernel_rfl⟩⟩
theorem one_int : OneTy Tryz.prog 3 := ⟨⟨_, Tryz.underlying3, rfl, by kernel_rfl⟩⟩
theorem one_bool : OneTy Tryz.prog 4 := ⟨⟨_, Tryz.underlying4, rfl, by kernel_rfl⟩⟩
theorem one_u8 : OneTy Tryz.prog 5 := ⟨⟨_, Tryz.underlying5, rfl, by kernel_rfl⟩⟩
theorem one_u16 : OneTy Tryz.prog 23 := ⟨⟨_, Tryz.underlying23, rfl, by kernel_rfl⟩⟩
theorem one_str : OneTy Tryz.prog 9 := ⟨⟨_, Tryz.underlying9, rfl, by kernel_rfl⟩⟩
theorem one_errno : OneTy Tryz.prog 29 := ⟨⟨_, Tryz.underlying29, rfl, by kernel_rfl⟩⟩
theorem one_phist : OneTy Tryz.prog 26 := ⟨⟨_, Tryz.underlying26, rfl, by kernel_rfl⟩⟩
theorem one_pspool : OneTy Tryz.prog 28 := ⟨⟨_, Tryz.underlying28, rfl, by kernel_rfl⟩⟩
theorem one_pplan : OneTy Tryz.prog 90 := ⟨⟨_, Tryz.underlying90, rfl, by kernel_rfl⟩⟩
theorem one_ppatt : OneTy Tryz.prog 99 := ⟨⟨_, Tryz.underlying99, rfl, by kernel_rfl⟩⟩
theorem one_mhist : OneTy Tryz.prog 69 := ⟨⟨_, Tryz.underlying69, rfl, by kernel_rfl⟩⟩
theorem one_mspool : OneTy Tryz.prog 72 := ⟨⟨_, Tryz.underlying72, rfl, by kernel_rfl⟩⟩
theorem one_mart : OneTy Tryz.prog 43 := ⟨⟨_, Tryz.underlying43, rfl, by kernel_rfl⟩⟩
theorem one_mbool : OneTy Tryz.prog 105 := ⟨⟨_, Tryz.underlying105, rfl, by kernel_rfl⟩⟩
theorem one_sbool : OneTy Tryz.prog 42 := ⟨⟨_, Tryz.underlying42, rfl, by kernel_rfl⟩⟩
theorem one_sart : OneTy Tryz.prog 52 := ⟨⟨_, Tryz.underlying52, rfl, by kernel_rfl⟩⟩
theorem one_sid : OneTy Tryz.prog 49 := ⟨⟨_, Tryz.underlying49, rfl, by kernel_rfl⟩⟩
theorem one_sreas : OneTy Tryz.prog 57 := ⟨⟨_, Tryz.underlying57, rfl, by kernel_rfl⟩⟩
theorem one_srule : OneTy Tryz.prog 34 := ⟨⟨_, Tryz.underlying34, rfl, by kernel_rfl⟩⟩
theorem one_scand : OneTy Tryz.prog 106 := ⟨⟨_, Tryz.underlying106, rfl, by kernel_rfl⟩⟩
theorem one_spatt : OneTy Tryz.prog 75 := ⟨⟨_, Tryz.underlying75, rfl, by kernel_rfl⟩⟩
theorem one_selem : OneTy Tryz.prog 126 := ⟨⟨_, Tryz.underlying126, rfl, by kernel_rfl⟩⟩
theorem one_elem : OneTy Tryz.prog 182 := ⟨⟨_, Tryz.underlying182, rfl, by kernel_rfl⟩⟩
theorem one_sstr : OneTy Tryz.prog 48 := ⟨⟨_, Tryz.underlying48, rfl, by kernel_rfl⟩⟩
theorem one_shent : OneTy Tryz.prog 97 := ⟨⟨_, Tryz.underlying97, rfl, by kernel_rfl⟩⟩
theorem one_ssent : OneTy Tryz.prog 87 := ⟨⟨_, Tryz.underlying87, rfl, by kernel_rfl⟩⟩
theorem one_fhent : OneTy Tryz.prog 96 := ⟨⟨_, Tryz.underlying96, rfl, by kernel_rfl⟩⟩
theorem one_fcand : OneTy Tryz.prog 119 := ⟨⟨_, Tryz.underlying119, rfl, by kernel_rfl⟩⟩
theorem one_sfcand : OneTy Tryz.prog 120 := ⟨⟨_, Tryz.underlying120, rfl, by kernel_rfl⟩⟩
abbrev i0 : Value := .int .i64 0
abbrev n0 : Value := .slice none 0 0
theorem zero_id : ZeroTy Tryz.prog 38 32 (stC 0 []) := ⟨⟨.agg _, by kernel_rfl, rfl, stC_size _ _⟩⟩
theorem zero_hent : ZeroTy Tryz.prog 40 36 (stC 0 [.int .i64 0, .int .i64 0, .int .i64 0, .bool false]) := ⟨⟨.agg _, by kernel_rfl, rfl, stC_size _ _⟩⟩
theorem zero_sent : ZeroTy Tryz.prog 56 34 (stC 0 [.int .i64 0, .int .i64 0]) := ⟨⟨.agg _, by kernel_rfl, rfl, stC_size _ _⟩⟩
theorem zero_art : ZeroTy Tryz.prog 85 3 #[.string ⟨#[]⟩, .int .i64 0, .int .i64 0] := ⟨⟨.agg _, by kernel_rfl, rfl, rfl⟩⟩
theorem zero_artc : ZeroTy Tryz.prog 51 39 (stC 0 [.int .i64 0, .int .i64 0, .slice none 0 0, .int .i64 0, .int .i64 0, .slice none 0 0, .bool false]) := ⟨⟨.agg _, by kernel_rfl, rfl, stC_size _ _⟩⟩
theorem zero_cand : ZeroTy Tryz.prog 113 42 (stC 0 [.int .i64 0, .int .i64 0, .slice none 0 0, .int .i64 0, .int .i64 0, .slice none 0 0, .bool false, .bool false, .bool false, .bool false]) := ⟨⟨.agg _, by kernel_rfl, rfl, stC_size _ _⟩⟩
theorem zero_reas : ZeroTy Tryz.prog 62 33 (stC 0 [.int .i64 0]) := ⟨⟨.agg _, by kernel_rfl, rfl, stC_size _ _⟩⟩
theorem zero_int : ZeroTy Tryz.prog 3 1 #[.int .i64 0] := ⟨⟨.int .i64 0, by kernel_rfl, rfl, rfl⟩⟩
theorem zero_u8 : ZeroTy Tryz.prog 5 1 #[.int .u8 0] := ⟨⟨.int .u8 0, by kernel_rfl, rfl, rfl⟩⟩
theorem zero_bool : ZeroTy Tryz.prog 4 1 #[.bool false] := ⟨⟨.bool false, by kernel_rfl, rfl, rfl⟩⟩
theorem zero_sid : ZeroTy Tryz.prog 49 1 #[.slice none 0 0] := ⟨⟨.slice none 0 0, by kernel_rfl, rfl, rfl⟩⟩
theorem zero_sart : ZeroTy Tryz.prog 52 1 #[.slice none 0 0] := ⟨⟨.slice none 0 0, by kernel_rfl, rfl, rfl⟩⟩
theorem zero_sfcand : ZeroTy Tryz.prog 120 1 #[.slice none 0 0] := ⟨⟨.slice none 0 0, by kernel_rfl, rfl, rfl⟩⟩
theorem zero_mart : ZeroTy Tryz.prog 43 1 #[.map none] := ⟨⟨.map none, by kernel_rfl, rfl, rfl⟩⟩
theorem zero_pspool : ZeroTy Tryz.prog 28 1 #[.pointer none] := ⟨⟨.pointer none, by kernel_rfl, rfl, rfl⟩⟩
theorem zero_phist : ZeroTy Tryz.prog 26 1 #[.pointer none] := ⟨⟨.pointer none, by kernel_rfl, rfl, rfl⟩⟩
theorem zero_rules : ZeroTy Tryz.prog 77 2 #[.slice none 0 0, .slice none 0 0] := ⟨⟨.agg _, by kernel_rfl, rfl, rfl⟩⟩
theorem zero_rule : ZeroTy Tryz.prog 33 3 #[.string ⟨#[]⟩, .int .i64 0, .int .i64 0] := ⟨⟨.agg _, by kernel_rfl, rfl, rfl⟩⟩
section
variable {w w0 : World} {G : List Nat} {L : List Ent} {R : List Thing} {ops : Array Oper} {rest : List Oper} {o : Oper} {a : Act} {Q : Exit → Act → World → Prop} {C : World → Prop} {ty : TypeId} {x y : Operand} {g i m n : Nat} {t : TypeId} {cs vs X : Array Value} {v : Value} {F : Array Value → List Ent}
/-! The laws of the walk, with all their conditions found by themselves. -/
theorem nlc (hM : Mem G w0 L R w) (h : wpList Tryz.prog ops Q rest (a.put o.dst v) w) (hgd : o.guard = none := by rfl) (ho : o.op = .load ty x := by rfl) (hx : a.eval x = .pointer (some ⟨g, i, none⟩) := by rfl) (hL : ⟨g, t, n, cs⟩ ∈ L := by repeat (first | exact List.Mem.head _ | assumption | apply List.Mem.tail)) (hty : OneTy Tryz.prog ty := by first | exact one_int | exact one_bool | exact one_u8 | exact one_u16 | exact one_str | exact one_errno | exact one_phist | exact one_pspool | exact one_pplan | exact one_ppatt | exact one_mhist | exact one_mspool | exact one_mart | exact one_mbool | exact one_sbool | exact one_sart | exact one_sid | exact one_sreas | exact one_srule | exact one_scand | exact one_spatt | exact one_selem | exact one_elem | exact one_sstr | exact one_shent | exact one_ssent | exact one_fhent | exact one_fcand | exact one_sfcand) (hv : cs[i]? = some v := by first | exact get_1_0 _  | exact get_2_0 _ _  | exact get_2_1 _ _  | exact get_3_0 _ _ _  | exact get_3_1 _ _ _  | exact get_3_2 _ _ _  | exact get_4_0 _ _ _ _  | exact get_4_1 _ _ _ _  | exact get_4_2 _ _ _ _  | exact get_4_3 _ _ _ _  | exact (stC_get _ _ (by decide)).trans rfl | rfl) : wpList Tryz.prog ops Q (o :: rest) a w :=
  wpList_mem_cell hM hgd ty x ho g i hx t n cs hL hty v hv h
theorem nll (hM : Mem G w0 L R w) (h : wpList Tryz.prog ops Q rest (a.put o.dst (.agg cs)) w) (hgd : o.guard = none := by rfl) (ho : o.op = .load ty x := by rfl) (hx : a.eval x = .pointer (some ⟨g, 0, none⟩) := by rfl) (hL : ⟨g, t, n, cs⟩ ∈ L := by repeat (first | exact List.Mem.head _ | assumption | apply List.Mem.tail)) (hty : RowTy Tryz.prog ty n := by first | exact row_id | exact row_hent | exact row_sent | exact row_art | exact row_artc | exact row_cand | exact row_reas | exact row_offr | exact row_rule | exact row_hist | exact row_spool | exact row_plan | exact row_rules | exact row_patt | exact row_u10 | exact row_u3 | exact row_star) : wpList Tryz.prog ops Q (o :: rest) a w :=
  wpList_mem_load hM hgd ty x ho g hx t n cs hL hty h
theorem nlp (hM : Mem G w0 L R w) (h : wpList Tryz.prog ops Q rest (a.put o.dst (.agg X)) w) (hgd : o.guard = none := by rfl) (ho : o.op = .load ty x := by rfl) (hx : a.eval x = .pointer (some ⟨g, i, none⟩) := by rfl) (hL : ⟨g, t, n, cs⟩ ∈ L := by repeat (first | exact List.Mem.head _ | assumption | apply List.Mem.tail)) (hty : RowTy Tryz.prog ty m := by first | exact row_id | exact row_hent | exact row_sent | exact row_art | exact row_artc | exact row_cand | exact row_reas | exact row_offr | exact row_rule | exact row_hist | exact row_spool | exact row_plan | exact row_rules | exact row_patt | exact row_u10 | exact row_u3 | exact row_star) (hm : i + m ≤ n := by omega) (hX : cs.extract i (i + m) = X := by first | with_reducible exact stC_id _ _ | with_reducible exact stC_39 _ _ _ _ _ _ _ _ _ _ _ | exact stC_id _ _ | rfl) : wpList Tryz.prog ops Q (o :: rest) a w :=
  wpList_mem_part hM hgd ty x ho g i hx t n cs hL m hty hm X hX h
theorem nls (hM : Mem G w0 L R w) (h : ∀ w', Mem G w0 (F X) R w' → wpList Tryz.prog ops Q rest a w') (hgd : o.guard = none := by rfl) (ho : o.op = .store ty x y := by rfl) (hx : a.eval x = .pointer (some ⟨g, i, none⟩) := by rfl) (hy : a.eval y = v := by (go_simp; rfl)) (hL : UpdL g t n cs L F := by repeat (first | exact UpdL.head _ _ _ _ _ | assumption | apply UpdL.tail)) (hty : OneTy Tryz.prog ty := by first | exact one_int | exact one_bool | exact one_u8 | exact one_u16 | exact one_str | exact one_errno | exact one_phist | exact one_pspool | exact one_pplan | exact one_ppatt | exact one_mhist | exact one_mspool | exact one_mart | exact one_mbool | exact one_sbool | exact one_sart | exact one_sid | exact one_sreas | exact one_srule | exact one_scand | exact one_spatt | exact one_selem | exact one_elem | exact one_sstr | exact one_shent | exact one_ssent | exact one_fhent | exact one_fcand | exact one_sfcand) (hi : i < n := by omega) (h1 : v.oneCell' = true := by rfl) (hdst : o.dst = none := by rfl) (hX : cs.setIfInBounds i v = X := by first | exact stC_set34 _ _ _ _ _ _ | exact set_1_0 _ _ | exact set_2_0 _ _ _  | exact set_2_1 _ _ _  | exact set_3_0 _ _ _ _  | exact set_3_1 _ _ _ _  | exact set_3_2 _ _ _ _  | exact set_4_0 _ _ _ _ _  | exact set_4_1 _ _ _ _ _  | exact set_4_2 _ _ _ _ _  | exact set_4_3 _ _ _ _ _  | rfl) : wpList Tryz.prog ops Q (o :: rest) a w :=
  wpList_mem_set_to hM hgd ty x y ho g i hx v hy t n cs F hL hty hi h1 hdst X hX h
theorem nlw (hM : Mem G w0 L R w) (h : ∀ w', Mem G w0 (F vs) R w' → wpList Tryz.prog ops Q rest a w') (hgd : o.guard = none := by rfl) (ho : o.op = .store ty x y := by rfl) (hx : a.eval x = .pointer (some ⟨g, 0, none⟩) := by rfl) (hy : a.eval y = .agg vs := by rfl) (hL : UpdL g t n cs L F := by repeat (first | exact UpdL.head _ _ _ _ _ | assumption | apply UpdL.tail)) (hty : RowTy Tryz.prog ty n := by first | exact row_id | exact row_hent | exact row_sent | exact row_art | exact row_artc | exact row_cand | exact row_reas | exact row_offr | exact row_rule | exact row_hist | exact row_spool | exact row_plan | exact row_rules | exact row_patt | exact row_u10 | exact row_u3 | exact row_star) (hs : vs.size = n := by first | with_reducible exact stC_size _ _ | exact (stC_size _ _).trans rfl | rfl) (h1 : ∀ v ∈ vs.toList, v.oneCell' = true := by first | exact stC_one rfl | exact all_one rfl) (hdst : o.dst = none := by rfl) : wpList Tryz.prog ops Q (o :: rest) a w :=
  wpList_mem_store hM hgd ty x y ho g hx vs hy t n cs F hL hty hs h1 hdst h
theorem nlt (hM : Mem G w0 L R w) (h : ∀ w', Mem G w0 (F X) R w' → wpList Tryz.prog ops Q rest a w') (hgd : o.guard = none := by rfl) (ho : o.op = .store ty x y := by rfl) (hx : a.eval x = .pointer (some ⟨g, i, none⟩) := by rfl) (hy : a.eval y = .agg vs := by rfl) (hL : UpdL g t n cs L F := by repeat (first | exact UpdL.head _ _ _ _ _ | assumption | apply UpdL.tail)) (hty : RowTy Tryz.prog ty m := by first | exact row_id | exact row_hent | exact row_sent | exact row_art | exact row_artc | exact row_cand | exact row_reas | exact row_offr | exact row_rule | exact row_hist | exact row_spool | exact row_plan | exact row_rules | exact row_patt | exact row_u10 | exact row_u3 | exact row_star) (hs : vs.size = m := by first | with_reducible exact stC_size _ _ | exact (stC_size _ _).trans rfl | rfl) (hm : i + m ≤ n := by omega) (h1 : ∀ v ∈ vs.toList, v.oneCell' = true := by first | exact stC_one rfl | exact all_one rfl) (hdst : o.dst = none := by rfl) (hX : (splice cs.toList i vs.toList).toArray = X := by rfl) : wpList Tryz.prog ops Q (o :: rest) a w :=
  wpList_mem_store_part hM hgd ty x y ho g i hx vs hy t n cs F hL m hty hs hm h1 hdst X hX h
theorem nlz (hM : Mem G w0 L R w) (h : ∀ g w', Mem G w0 (⟨g, ty, n, cs⟩ :: L) R w' → wpList Tryz.prog ops Q rest (a.put o.dst (.pointer (some ⟨g, 0, none⟩))) w') (hgd : o.guard = none := by rfl) (ho : o.op = .alloc ty := by rfl) (hz : ZeroTy Tryz.prog ty n cs := by first | exact zero_id | exact zero_hent | exact zero_sent | exact zero_art | exact zero_artc | exact zero_cand | exact zero_reas | exact zero_int | exact zero_bool | exact zero_sid | exact zero_sart | exact zero_mart | exact zero_pspool | exact zero_phist | exact zero_rules | exact zero_rule | exact zero_sfcand | exact zero_u8) : wpList Tryz.prog ops Q (o :: rest) a w :=
  wpList_mem_zero hM hgd ty ho n cs hz h
theorem nlb (hM : Mem G w0 L R w) (h : ∀ g w', Mem G w0 (⟨g, ty, n, cs⟩ :: L) R w' → wpList Tryz.prog ops Q rest (a.put o.dst (.pointer (some ⟨g, 0, none⟩))) w') (hgd : o.guard = none := by rfl) (ho : o.op = .box ty x := by rfl) (hx : a.eval x = .agg cs := by rfl) (hty : RowTy Tryz.prog ty n := by first | exact row_id | exact row_hent | exact row_sent | exact row_art | exact row_artc | exact row_cand | exact row_reas | exact row_offr | exact row_rule | exact row_hist | exact row_spool | exact row_plan | exact row_rules | exact row_patt | exact row_u10 | exact row_u3 | exact row_star) (hn : cs.size = n := by first | with_reducible exact stC_size _ _ | exact (stC_size _ _).trans rfl | rfl) : wpList Tryz.prog ops Q (o :: rest) a w :=
  wpList_mem_box hM hgd ty x ho cs hx n hty hn h
theorem nlx (hM : Mem G w0 L R w) (h : ∀ g w', Mem G w0 (⟨g, ty, 1, #[v]⟩ :: L) R w' → wpList Tryz.prog ops Q rest (a.put o.dst (.pointer (some ⟨g, 0, none⟩))) w') (hgd : o.guard = none := by rfl) (ho : o.op = .box ty x := by rfl) (hx : a.eval x = v := by rfl) (h1 : v.oneCell' = true := by rfl) : wpList Tryz.prog ops Q (o :: rest) a w := by
  have hc : v.cells = #[v] := by cases v <;> simp_all [Value.cells, Value.oneCell']
  refine wpList_plain hgd fun K hK => ?_
  unfold Oper.wp execOp
  simp only [ho, hx, Instr.box, newVar, newRow, newObj, Sem.run_bind, Sem.run_pure, hc]
  exact hK _ _ (h _ _ (hM.alloc _ _ rfl))
theorem nqc (hM : Mem G w0 L R w) (ho : o.op = .load ty x := by rfl) (hx : a.eval x = .pointer (some ⟨g, i, none⟩) := by rfl) (hL : ⟨g, t, n, cs⟩ ∈ L := by repeat (first | exact List.Mem.head _ | assumption | apply List.Mem.tail)) (hty : OneTy Tryz.prog ty := by first | exact one_int | exact one_bool | exact one_u8 | exact one_u16 | exact one_str | exact one_errno | exact one_phist | exact one_pspool | exact one_pplan | exact one_ppatt | exact one_mhist | exact one_mspool | exact one_mart | exact one_mbool | exact one_sbool | exact one_sart | exact one_sid | exact one_sreas | exact one_srule | exact one_scand | exact one_spatt | exact one_selem | exact one_elem | exact one_sstr | exact one_shent | exact one_ssent | exact one_fhent | exact one_fcand | exact one_sfcand) (hv : cs[i]? = some v := by first | exact get_1_0 _  | exact get_2_0 _ _  | exact get_2_1 _ _  | exact get_3_0 _ _ _  | exact get_3_1 _ _ _  | exact get_3_2 _ _ _  | exact get_4_0 _ _ _ _  | exact get_4_1 _ _ _ _  | exact get_4_2 _ _ _ _  | exact get_4_3 _ _ _ _  | exact (stC_get _ _ (by decide)).trans rfl | rfl) : o.quietAt Tryz.prog a C w v :=
  quietAt_mem_cell hM ty x ho g i hx t n cs hL hty v hv
theorem nql (hM : Mem G w0 L R w) (ho : o.op = .load ty x := by rfl) (hx : a.eval x = .pointer (some ⟨g, 0, none⟩) := by rfl) (hL : ⟨g, t, n, cs⟩ ∈ L := by repeat (first | exact List.Mem.head _ | assumption | apply List.Mem.tail)) (hty : RowTy Tryz.prog ty n := by first | exact row_id | exact row_hent | exact row_sent | exact row_art | exact row_artc | exact row_cand | exact row_reas | exact row_offr | exact row_rule | exact row_hist | exact row_spool | exact row_plan | exact row_rules | exact row_patt | exact row_u10 | exact row_u3 | exact row_star) : o.quietAt Tryz.prog a C w (.agg cs) :=
  quietAt_mem_load hM ty x ho g hx t n cs hL hty
theorem nqp (hM : Mem G w0 L R w) (ho : o.op = .load ty x := by rfl) (hx : a.eval x = .pointer (some ⟨g, i, none⟩) := by rfl) (hL : ⟨g, t, n, cs⟩ ∈ L := by repeat (first | exact List.Mem.head _ | assumption | apply List.Mem.tail)) (hty : RowTy Tryz.prog ty m := by first | exact row_id | exact row_hent | exact row_sent | exact row_art | exact row_artc | exact row_cand | exact row_reas | exact row_offr | exact row_rule | exact row_hist | exact row_spool | exact row_plan | exact row_rules | exact row_patt | exact row_u10 | exact row_u3 | exact row_star) (hm : i + m ≤ n := by omega) (hX : cs.extract i (i + m) = X := by first | with_reducible exact stC_id _ _ | with_reducible exact stC_39 _ _ _ _ _ _ _ _ _ _ _ | exact stC_id _ _ | rfl) : o.quietAt Tryz.prog a C w (.agg X) :=
  quietAt_mem_part hM ty x ho g i hx t n cs hL m hty hm X hX
/-- A struct read through a slice; a cell of it. -/
theorem nlr (hX : ∀ j u, X[j]? = some u → w.cell? ⟨g, i + j, none⟩ = some u) (h : wpList Tryz.prog ops Q rest (a.put o.dst (.agg X)) w) (hgd : o.guard = none := by rfl) (ho : o.op = .load ty x := by rfl) (hx : a.eval x = .pointer (some ⟨g, i, none⟩) := by rfl) (hty : RowTy Tryz.prog ty m := by first | exact row_id | exact row_hent | exact row_sent | exact row_art | exact row_artc | exact row_cand | exact row_reas | exact row_offr | exact row_rule | exact row_hist | exact row_spool | exact row_plan | exact row_rules | exact row_patt | exact row_u10 | exact row_u3 | exact row_star) (hs : X.size = m := by first | with_reducible exact stC_size _ _ | exact (stC_size _ _).trans rfl | rfl) : wpList Tryz.prog ops Q (o :: rest) a w :=
  wpList_reads_load hgd ty x ho g i hx m hty X hs hX h
theorem nlo (hc : w.cell? ⟨g, i, none⟩ = some v) (h : wpList Tryz.prog ops Q rest (a.put o.dst v) w) (hgd : o.guard = none := by rfl) (ho : o.op = .load ty x := by rfl) (hx : a.eval x = .pointer (some ⟨g, i, none⟩) := by rfl) (hty : OneTy Tryz.prog ty := by first | exact one_int | exact one_bool | exact one_u8 | exact one_u16 | exact one_str | exact one_errno | exact one_phist | exact one_pspool | exact one_pplan | exact one_ppatt | exact one_mhist | exact one_mspool | exact one_mart | exact one_mbool | exact one_sbool | exact one_sart | exact one_sid | exact one_sreas | exact one_srule | exact one_scand | exact one_spatt | exact one_selem | exact one_elem | exact one_sstr | exact one_shent | exact one_ssent | exact one_fhent | exact one_fcand | exact one_sfcand) : wpList Tryz.prog ops Q (o :: rest) a w :=
  wpList_one_load hgd ty x ho g i hx hty v hc h
theorem nqo (hc : w.cell? ⟨g, i, none⟩ = some v) (ho : o.op = .load ty x := by rfl) (hx : a.eval x = .pointer (some ⟨g, i, none⟩) := by rfl) (hty : OneTy Tryz.prog ty := by first | exact one_int | exact one_bool | exact one_u8 | exact one_u16 | exact one_str | exact one_errno | exact one_phist | exact one_pspool | exact one_pplan | exact one_ppatt | exact one_mhist | exact one_mspool | exact one_mart | exact one_mbool | exact one_sbool | exact one_sart | exact one_sid | exact one_sreas | exact one_srule | exact one_scand | exact one_spatt | exact one_selem | exact one_elem | exact one_sstr | exact one_shent | exact one_ssent | exact one_fhent | exact one_fcand | exact one_sfcand) : o.quietAt Tryz.prog a C w v :=
  quietAt_one ty x ho g i hx hty v hc
end
/-- Two ids. -/
theorem eq_id (i j : Nat) (W : World) : (Op.equalIn 10000 38 (.agg (stC i [])) (.agg (stC j []))).run Tryz.prog W = .ok (decide (i = j)) W := by
  have h := run_equalIn_nums W 9998 (idL i) (idL j) Tryz.underlying38 Tryz.underlying5 (by kernel_rfl) (by simp [idL]) (by simp [idL])
  have e : (idL i == idL j) = decide (i = j) := by
    by_cases hxy : i = j
    · subst hxy; simp
    · have : ¬ idL i = idL j := fun h => hxy (idL_inj.1 h)
      simp [hxy, this]
  rw [e, ← stC_nil, ← stC_nil] at h
  exact h
end Go.Proofs.YtpjphjokhccdaaaGreat
