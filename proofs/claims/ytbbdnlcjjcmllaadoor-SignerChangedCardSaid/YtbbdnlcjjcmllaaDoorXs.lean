/- Plain law of extraction: two chains that start with different values at a step and end alike have a collision between. No condition, no program. What the texts on evidence share with the walks of seat o. Evidence in memory: its cells, its fields, how it is built, when two are equal. The type Evidence: built, compared. -/
import Derived.Test.YtbbdnlcjjcmllaaDoorXp
import Derived.Test.YtbbdnlcjjcmllaaDoorXr
import Derived.Test.YtbbdnlcjjcmllaaDoorXq
namespace Go.Bul.Hp
/-- Two different values of a chain at a step that lead to the same end. -/
structure Near (leaf c k : Nat) (P Q : List Nat) : Prop where
  p : P.length = 16
  q : Q.length = 16
  pb : Bytes P
  qb : Bytes Q
  ne : P ≠ Q
  end_ : advV leaf c k (15 - k) P = advV leaf c k (15 - k) Q
theorem Near.lt {leaf c k : Nat} {P Q : List Nat} (h : Near leaf c k P Q) (hk : k ≤ 15) : k < 15 := by
  rcases Nat.lt_or_ge k 15 with h1 | h1
  · exact h1
  · have := h.end_
    rw [show 15 - k = 0 by omega] at this
    exact absurd this h.ne
theorem Near.step {leaf c k : Nat} {P Q : List Nat} (h : Near leaf c k P Q) (hk : k < 15) (hne : stepV leaf c k P ≠ stepV leaf c k Q) : Near leaf c (k + 1) (stepV leaf c k P) (stepV leaf c k Q) := by
  refine ⟨stepV_length _ _ _ _, stepV_length _ _ _ _, bytes_stepV _ _ _ _, bytes_stepV _ _ _ _, hne, ?_⟩
  have := h.end_
  rw [show 15 - k = 15 - (k + 1) + 1 by omega] at this
  exact this
theorem adv_one (leaf c k : Nat) (P : List Nat) : advV leaf c k (k + 1 - k) P = stepV leaf c k P := by
  rw [show k + 1 - k = 0 + 1 by omega]
  rfl
theorem piece_pieces_lt {f : Nat → List Nat} (i : Nat) : ∀ n, (∀ i, i < n → (f i).length = 16) → i < n → piece (pieces f n) i = f i
  | 0, _, h => absurd h (by omega)
  | n + 1, hf, h => by
    have hl := pieces_length_lt n fun i hi => hf i (by omega)
    rw [pieces_succ]
    rcases (show i < n ∨ i = n by omega) with h1 | rfl
    · have := piece_pieces_lt i n (fun i hi => hf i (by omega)) h1
      rw [piece, List.drop_append_of_le_length (by omega), List.take_append_of_le_length (by rw [List.length_drop]; omega)]
      exact this
    · rw [piece, List.drop_append_of_le_length (by omega), List.drop_of_length_le (by omega), List.nil_append, List.take_of_length_le (by rw [hf _ (by omega)]; omega)]
theorem piece_last {leaf : Nat} {d E : List Nat} (hE : E.length = 560) (i : Nat) (hi : i < 35) : piece (lastV leaf d E) i = advV leaf i ((split d).getD i 0) (15 - (split d).getD i 0) (piece E i) :=
  piece_pieces_lt i 35 (fun _ hi => advV_length _ _ (piece_length (n := 35) hE hi)) hi
/-- Where the ends agree, the values at a chain whose digit is lower agree, or they are near. -/
theorem near_of_last {leaf : Nat} {a b E F : List Nat} (ha : Bytes a) (hE : E.length = 560) (hF : F.length = 560) (hEb : Bytes E) (hFb : Bytes F) (h : lastV leaf a E = lastV leaf b F) (c : Nat) (hc : c < 35) (hlt : (split b).getD c 0 < (split a).getD c 0)
    (hne : piece E c ≠ advV leaf c ((split b).getD c 0) ((split a).getD c 0 - (split b).getD c 0) (piece F c)) :
    Near leaf c ((split a).getD c 0) (piece E c) (advV leaf c ((split b).getD c 0) ((split a).getD c 0 - (split b).getD c 0) (piece F c)) := by
  have h15 := split_le ha c
  have hp := piece_length (n := 35) hE hc
  have hq := piece_length (n := 35) hF hc
  refine ⟨hp, advV_length _ _ hq, bytes_piece hEb c, bytes_advV _ _ (bytes_piece hFb c), hne, ?_⟩
  have e1 := piece_last (leaf := leaf) (d := a) hE c hc
  have e2 := piece_last (leaf := leaf) (d := b) hF c hc
  rw [h, e2] at e1
  rw [← e1]
  have e3 := advV_add leaf c ((split a).getD c 0 - (split b).getD c 0) ((split b).getD c 0) (15 - (split a).getD c 0) (piece F c)
  rw [show (split b).getD c 0 + ((split a).getD c 0 - (split b).getD c 0) = (split a).getD c 0 by omega, show (split a).getD c 0 - (split b).getD c 0 + (15 - (split a).getD c 0) = 15 - (split b).getD c 0 by omega] at e3
  exact e3.symm
end Go.Bul.Hp
namespace Go.Bul.Hp
open Go Go.RowKit
theorem at_build_g {P : Program} {w : World} {ops : Array Oper} {rest : List Oper} {a : Act} {Q : Exit → Act → World → Prop} {dst : Option Tmp} {type : TypeId} {pos : String} {after : Array Edge} {t : TypeId} {ps : Array (Nat × Operand)} {g : Nat × Bool}
    (hw : Region.wanted ⟨dst, .build t ps, type, pos, after, some g⟩ (yielded ops a.tmps) = true) (h : wpList P ops Q (⟨dst, .build t ps, type, pos, after, none⟩ :: rest) a w) : wpList P ops Q (⟨dst, .build t ps, type, pos, after, some g⟩ :: rest) a w := by
  unfold wpList at h ⊢
  rw [if_pos hw]
  rw [if_pos (by simp [Region.wanted])] at h
  exact h
end Go.Bul.Hp
namespace Go.Proofs.YtbbdnlcjjcmllaaDoor.Once
open Go Go.RowKit Go.Bul Go.Bul.Hp
end Go.Proofs.YtbbdnlcjjcmllaaDoor.Once
namespace Go.Bul.Hp
open Go Go.RowKit
/-- The cells of evidence: kind, chain, from, to, two values, two lists of ends. -/
def evl (k c f t : Int) (A B F S : List Nat) : List Value := [.int .i64 k, .int .i64 c, .int .i64 f, .int .i64 t] ++ (vals .u8 A ++ (vals .u8 B ++ (vals .u8 F ++ vals .u8 S)))
def evc (k c f t : Int) (A B F S : List Nat) : Array Value := (evl k c f t A B F S).toArray
structure EvOk (A B F S : List Nat) : Prop where
  a : A.length = 16
  b : B.length = 16
  f : F.length = 560
  s : S.length = 560
section
variable {k c f t : Int} {A B F S : List Nat}
theorem evc_size (h : EvOk A B F S) : (evc k c f t A B F S).size = 1156 := by
  obtain ⟨h1, h2, h3, h4⟩ := h
  simp [evc, evl, h1, h2, h3, h4]
theorem evc_one : ∀ v ∈ (evc k c f t A B F S).toList, v.oneCell' = true := by
  intro v hv
  simp only [evc, evl, List.mem_append, List.mem_cons, List.not_mem_nil, or_false] at hv
  rcases hv with (rfl | rfl | rfl | rfl) | hv | hv | hv | hv
  · rfl
  · rfl
  · rfl
  · rfl
  all_goals exact vals_one _ _ v hv
theorem evc_0 : (evc k c f t A B F S)[0]? = some (.int .i64 k) := rfl
theorem evc_1 : (evc k c f t A B F S)[1]? = some (.int .i64 c) := rfl
theorem evc_2 : (evc k c f t A B F S)[2]? = some (.int .i64 f) := rfl
theorem evc_3 : (evc k c f t A B F S)[3]? = some (.int .i64 t) := rfl
theorem mid_extract {X Y Z : List Value} {off n : Nat} (h1 : X.length = off) (h2 : Y.length = n) : ((X ++ (Y ++ Z)).toArray).extract off (off + n) = Y.toArray := by
  apply Array.ext'
  simp only [List.extract_toArray, List.extract_eq_take_drop]
  rw [List.drop_append, List.drop_of_length_le (by omega), h1, Nat.sub_self, List.drop_zero, List.nil_append, show off + n - off = n by omega, List.take_append_of_le_length (by omega), List.take_of_length_le (by omega)]
theorem evc_A (h : EvOk A B F S) : (evc k c f t A B F S).extract 4 (4 + 16) = cellsOf .u8 A := mid_extract rfl (by simp [h.a])
theorem evc_B (h : EvOk A B F S) : (evc k c f t A B F S).extract 20 (20 + 16) = cellsOf .u8 B := by
  have : evl k c f t A B F S = ([.int .i64 k, .int .i64 c, .int .i64 f, .int .i64 t] ++ vals .u8 A) ++ (vals .u8 B ++ (vals .u8 F ++ vals .u8 S)) := by simp [evl]
  rw [evc, this]
  exact mid_extract (by simp [h.a]) (by simp [h.b])
theorem evc_F (h : EvOk A B F S) : (evc k c f t A B F S).extract 36 (36 + 560) = cellsOf .u8 F := by
  have : evl k c f t A B F S = ([.int .i64 k, .int .i64 c, .int .i64 f, .int .i64 t] ++ (vals .u8 A ++ vals .u8 B)) ++ (vals .u8 F ++ vals .u8 S) := by simp [evl]
  rw [evc, this]
  exact mid_extract (by simp [h.a, h.b]) (by simp [h.f])
theorem evc_S (h : EvOk A B F S) : (evc k c f t A B F S).extract 596 (596 + 560) = cellsOf .u8 S := by
  have : evl k c f t A B F S = ([.int .i64 k, .int .i64 c, .int .i64 f, .int .i64 t] ++ (vals .u8 A ++ (vals .u8 B ++ vals .u8 F))) ++ (vals .u8 S ++ []) := by simp [evl]
  rw [evc, this]
  exact mid_extract (by simp [h.a, h.b, h.f]) (by simp [h.s])
theorem mid_splice {X Y Z N : List Value} {off : Nat} (h1 : X.length = off) (h2 : Y.length = N.length) : (splice (X ++ (Y ++ Z)) off N) = X ++ (N ++ Z) := by
  unfold splice
  rw [List.take_append_of_le_length (by omega), List.take_of_length_le (by omega), List.drop_append, List.drop_of_length_le (by omega), List.drop_append, h1, show off + N.length - off = N.length by omega, List.drop_of_length_le (by omega), List.nil_append, List.nil_append, ← h2, Nat.sub_self, List.drop_zero]
theorem evl_k (k' : Int) : splice (evl k c f t A B F S) 0 [.int .i64 k'] = evl k' c f t A B F S := rfl
theorem evl_c (k' : Int) : splice (evl k c f t A B F S) 1 [.int .i64 k'] = evl k k' f t A B F S := rfl
theorem evl_f (k' : Int) : splice (evl k c f t A B F S) 2 [.int .i64 k'] = evl k c k' t A B F S := rfl
theorem evl_t (k' : Int) : splice (evl k c f t A B F S) 3 [.int .i64 k'] = evl k c f k' A B F S := rfl
theorem evl_A (h : EvOk A B F S) {N : List Nat} (hN : N.length = 16) : splice (evl k c f t A B F S) 4 (vals .u8 N) = evl k c f t N B F S := mid_splice rfl (by simp [h.a, hN])
theorem evl_B (h : EvOk A B F S) {N : List Nat} (hN : N.length = 16) : splice (evl k c f t A B F S) 20 (vals .u8 N) = evl k c f t A N F S := by
  have e : ∀ B', evl k c f t A B' F S = ([.int .i64 k, .int .i64 c, .int .i64 f, .int .i64 t] ++ vals .u8 A) ++ (vals .u8 B' ++ (vals .u8 F ++ vals .u8 S)) := fun B' => by simp [evl]
  rw [e, e]
  exact mid_splice (by simp [h.a]) (by simp [h.b, hN])
theorem evl_F (h : EvOk A B F S) {N : List Nat} (hN : N.length = 560) : splice (evl k c f t A B F S) 36 (vals .u8 N) = evl k c f t A B N S := by
  have e : ∀ F', evl k c f t A B F' S = ([.int .i64 k, .int .i64 c, .int .i64 f, .int .i64 t] ++ (vals .u8 A ++ vals .u8 B)) ++ (vals .u8 F' ++ vals .u8 S) := fun F' => by simp [evl]
  rw [e, e]
  exact mid_splice (by simp [h.a, h.b]) (by simp [h.f, hN])
theorem evl_S (h : EvOk A B F S) {N : List Nat} (hN : N.length = 560) : splice (evl k c f t A B F S) 596 (vals .u8 N) = evl k c f t A B F N := by
  have e : ∀ S', evl k c f t A B F S' = ([.int .i64 k, .int .i64 c, .int .i64 f, .int .i64 t] ++ (vals .u8 A ++ (vals .u8 B ++ vals .u8 F))) ++ (vals .u8 S' ++ []) := fun S' => by simp [evl]
  rw [e, e]
  exact mid_splice (by simp [h.a, h.b, h.f]) (by simp [h.s, hN])
end
/-! ### Building a struct out of parts -/
theorem fold_set (off : Nat) : ∀ (vs : List Value) (j : Nat) (cs : Array Value), off + j + vs.length ≤ cs.size →
    ((vs.zipIdx j).foldl (fun cs (p : Value × Nat) => cs.setIfInBounds (off + p.2) p.1) cs).toList = cs.toList.take (off + j) ++ (vs ++ cs.toList.drop (off + j + vs.length))
  | [], j, cs, _ => by simp
  | v :: vs, j, cs, h => by
    simp only [List.length_cons] at h
    have ih := fold_set off vs (j + 1) (cs.setIfInBounds (off + j) v) (by simp; omega)
    simp only [List.zipIdx_cons, List.foldl_cons]
    rw [ih]
    simp only [Array.toList_setIfInBounds, List.length_cons]
    have hlt : off + j < cs.toList.length := by simp; omega
    rw [show off + (j + 1) = (off + j) + 1 by omega, List.take_succ_eq_append_getElem (by simpa using hlt), List.getElem_set_self, List.take_set_of_le (Nat.le_refl _), List.drop_set_of_lt (by omega)]
    simp only [List.append_assoc, List.cons_append, List.nil_append]
    congr 4
    omega
theorem fill_cons {place : Nat → Option (Nat × Nat)} {cells : Array Value} {i off size : Nat} {v : Value} {rest : List (Nat × Value)} (hp : place i = some (off, size)) (hs : v.cells.size = size) (hb : off + size ≤ cells.size) :
    Instr.fill place cells ((i, v) :: rest) = Instr.fill place (splice cells.toList off v.cells.toList).toArray rest := by
  have hcond : (decide (v.cells.size ≠ size) || decide (off + v.cells.size > cells.size)) = false := by simp; omega
  simp only [Instr.fill, hp, hcond, Bool.false_eq_true, if_false]
  congr 1
  apply Array.ext'
  have := fold_set off v.cells.toList 0 cells (by simp; omega)
  simp only [Nat.add_zero] at this
  rw [← Array.foldl_toList, Array.toList_zipIdx]
  exact this
theorem run_build_struct {P : Program} {ty : TypeId} {fields : Array Field} {z : Value} (hu : P.underlying ty = some (.struct fields)) (hz : (P.info? ty).map (·.zero) = some (some z)) {places : Array (Nat × Nat)}
    (hp : ∀ w, (fields.mapM fun f => do pure (f.offset, ← sizeOf f.type) : Sem (Array (Nat × Nat))).run P w = .ok places w) {parts : Array (Nat × Value)} {cs : Array Value} (hf : Instr.fill (places[·]?) z.cells parts.toList = some cs) (w : World) :
    (Instr.build ty parts).run P w = .ok (.agg cs) w := by
  cases hq : P.info? ty with
  | none => simp [hq] at hz
  | some i =>
    have hz' : i.zero = some z := by simpa [hq] using hz
    have hzr : (zeroValue ty).run P w = .ok z w := by simp [zeroValue, typeInfo, hq, hz']
    simp only [Instr.build, Sem.run_bind, hzr, run_underlying hu, Result.andThen_ok, hp, hf, Sem.run_pure]
end Go.Bul.Hp
namespace Go.Bul.Hp
open Go Go.RowKit
theorem all_pieces {l m : List Nat} {n : Nat} (hl : l.length = 16 * n) (hm : m.length = 16 * n) : ((List.range n).all fun i => piece l i == piece m i) = (l == m) := by
  rw [Bool.eq_iff_iff]
  simp only [List.all_eq_true, List.mem_range, beq_iff_eq]
  constructor
  · intro h
    rw [← pieces_piece n hl, ← pieces_piece n hm]
    exact pieces_congr n h
  · rintro rfl i _
    rfl
/-- Two arrays of arrays of 16 bytes. -/
theorem run_eq_arr2 {P : Program} {T e b : TypeId} {n : Nat} (w : World) (d : Nat) (hT : P.underlying T = some (.array n e)) (he : P.underlying e = some (.array 16 b)) (hb : P.underlying b = some (.int .u8)) (hse : (P.info? e).map (·.size) = some 16) (hsb : (P.info? b).map (·.size) = some 1) (l m : List Nat) (hl : l.length = 16 * n) (hm : m.length = 16 * n) :
    (Op.equalIn (d + 3) T (.agg (cellsOf .u8 l)) (.agg (cellsOf .u8 m))).run P w = .ok (l == m) w := by
  rw [run_equalIn_array w (d + 2) (cellsOf .u8 l) (cellsOf .u8 m) (fun i => piece l i == piece m i) hT hse, all_pieces hl hm]
  intro i hi
  have h1 : (part e (cellsOf .u8 l) (i * 16)).run P w = .ok (.agg (cellsOf .u8 (piece l i))) w := by
    simp only [part, Sem.run_bind, run_isAgg he rfl, run_sizeOf hse, Result.andThen_ok, if_true, cells_piece .u8 l i (i * 16) (by omega), Sem.run_pure]
  have h2 : (part e (cellsOf .u8 m) (i * 16)).run P w = .ok (.agg (cellsOf .u8 (piece m i))) w := by
    simp only [part, Sem.run_bind, run_isAgg he rfl, run_sizeOf hse, Result.andThen_ok, if_true, cells_piece .u8 m i (i * 16) (by omega), Sem.run_pure]
  simp only [Sem.run_bind, h1, h2, Result.andThen_ok]
  exact run_equalIn_nums w d (piece l i) (piece m i) he hb hsb (piece_length hl hi) (piece_length hm hi)
theorem run_part_row {P : Program} {ty : TypeId} {m : Nat} (hty : RowTy P ty m) {cs X : Array Value} {off : Nat} (hX : cs.extract off (off + m) = X) (w : World) : (part ty cs off).run P w = .ok (.agg X) w := by
  obtain ⟨d, hu, hd, hi⟩ := hty.ex
  simp only [part, Sem.run_bind, run_isAgg hu hd, run_sizeOf hi, Result.andThen_ok, if_true, hX, Sem.run_pure]
theorem run_part_one {P : Program} {ty : TypeId} (hty : OneTy P ty) {cs : Array Value} {v : Value} {off : Nat} (hv : cs[off]? = some v) (w : World) : (part ty cs off).run P w = .ok v w := by
  obtain ⟨d, hu, hd, _⟩ := hty.ex
  simp only [part, Sem.run_bind, run_isAgg_no hu hd, Result.andThen_ok, Bool.false_eq_true, if_false, hv, Sem.run_pure]
theorem eqFields_cons {P : Program} {d : Nat} {xs ys : Array Value} {f : Field} {fs : List Field} {a b : Value} {r q : Bool} {w : World} (hn : f.name ≠ "_") (ha : (part f.type xs f.offset).run P w = .ok a w) (hb : (part f.type ys f.offset).run P w = .ok b w) (hr : (Op.equalIn d f.type a b).run P w = .ok r w)
    (hq : (Op.eqFields d xs ys fs).run P w = .ok q w) : (Op.eqFields d xs ys (f :: fs)).run P w = .ok (r && q) w := by
  simp only [Op.eqFields, hn, ne_eq, not_false_eq_true, if_true, Sem.run_bind, ha, hb, hr, Result.andThen_ok]
  cases r
  · simp [Sem.run_pure]
  · simpa using hq
end Go.Bul.Hp
namespace Go.Proofs.YtbbdnlcjjcmllaaDoor.Once
open Go Go.RowKit Go.Bul Go.Bul.Hp
theorem row_evi : RowTy Tryd.prog 46 1156 := ⟨⟨_, Tryd.underlying46, rfl, by kernel_rfl⟩⟩
theorem evi_zero : (Tryd.prog.info? 46).map (·.zero) = some (some (.agg (evc 0 0 0 0 (zeros 16) (zeros 16) (zeros 560) (zeros 560)))) := by kernel_rfl
theorem ok0 : EvOk (zeros 16) (zeros 16) (zeros 560) (zeros 560) := ⟨zeros_length _, zeros_length _, zeros_length _, zeros_length _⟩
def evPlaces : Array (Nat × Nat) := #[(0, 1), (1, 1), (2, 1), (3, 1), (4, 16), (20, 16), (36, 560), (596, 560)]
theorem eq_e35 (l m : List Nat) (hl : l.length = 560) (hm : m.length = 560) (W : World) (d : Nat) : (Op.equalIn (d + 3) 34 (.agg (cellsOf .u8 l)) (.agg (cellsOf .u8 m))).run Tryd.prog W = .ok (l == m) W :=
  run_eq_arr2 W d Tryd.underlying34 Tryd.underlying23 Tryd.underlying5 (by kernel_rfl) (by kernel_rfl) l m hl hm
theorem eq_evi (k c f t k' c' f' t' : Int) (A B F S A' B' F' S' : List Nat) (h : EvOk A B F S) (h' : EvOk A' B' F' S') (W : World) :
    (Op.equalIn 10000 46 (.agg (evc k c f t A B F S)) (.agg (evc k' c' f' t' A' B' F' S'))).run Tryd.prog W = .ok (k == k' && (c == c' && (f == f' && (t == t' && (A == A' && (B == B' && (F == F' && S == S'))))))) W := by
  have eA : ∀ (l m : List Nat), l.length = 16 → m.length = 16 → (Op.equalIn 9999 23 (.agg (cellsOf .u8 l)) (.agg (cellsOf .u8 m))).run Tryd.prog W = .ok (l == m) W := fun l m hl hm => run_equalIn_nums W 9997 l m Tryd.underlying23 Tryd.underlying5 size_u8 hl hm
  have eI : ∀ (a b : Int), (Op.equalIn 9999 3 (.int .i64 a) (.int .i64 b)).run Tryd.prog W = .ok (a == b) W := fun a b => run_equalIn_int W 9998 3 .i64 .i64 a b Tryd.underlying3
  have eE : ∀ (l m : List Nat), l.length = 560 → m.length = 560 → (Op.equalIn 9999 34 (.agg (cellsOf .u8 l)) (.agg (cellsOf .u8 m))).run Tryd.prog W = .ok (l == m) W := fun l m hl hm => eq_e35 l m hl hm W 9996
  have p0 := run_part_one (P := Tryd.prog) one_int (evc_0 (k := k) (c := c) (f := f) (t := t) (A := A) (B := B) (F := F) (S := S)) W
  have p1 := run_part_one (P := Tryd.prog) one_int (evc_1 (k := k) (c := c) (f := f) (t := t) (A := A) (B := B) (F := F) (S := S)) W
  have p2 := run_part_one (P := Tryd.prog) one_int (evc_2 (k := k) (c := c) (f := f) (t := t) (A := A) (B := B) (F := F) (S := S)) W
  have p3 := run_part_one (P := Tryd.prog) one_int (evc_3 (k := k) (c := c) (f := f) (t := t) (A := A) (B := B) (F := F) (S := S)) W
  have p4 := run_part_row (P := Tryd.prog) row_a16 (evc_A (k := k) (c := c) (f := f) (t := t) h) W
  have p5 := run_part_row (P := Tryd.prog) row_a16 (evc_B (k := k) (c := c) (f := f) (t := t) h) W
  have p6 := run_part_row (P := Tryd.prog) row_e35 (evc_F (k := k) (c := c) (f := f) (t := t) h) W
  have p7 := run_part_row (P := Tryd.prog) row_e35 (evc_S (k := k) (c := c) (f := f) (t := t) h) W
  have q0 := run_part_one (P := Tryd.prog) one_int (evc_0 (k := k') (c := c') (f := f') (t := t') (A := A') (B := B') (F := F') (S := S')) W
  have q1 := run_part_one (P := Tryd.prog) one_int (evc_1 (k := k') (c := c') (f := f') (t := t') (A := A') (B := B') (F := F') (S := S')) W
  have q2 := run_part_one (P := Tryd.prog) one_int (evc_2 (k := k') (c := c') (f := f') (t := t') (A := A') (B := B') (F := F') (S := S')) W
  have q3 := run_part_one (P := Tryd.prog) one_int (evc_3 (k := k') (c := c') (f := f') (t := t') (A := A') (B := B') (F := F') (S := S')) W
  have q4 := run_part_row (P := Tryd.prog) row_a16 (evc_A (k := k') (c := c') (f := f') (t := t') h') W
  have q5 := run_part_row (P := Tryd.prog) row_a16 (evc_B (k := k') (c := c') (f := f') (t := t') h') W
  have q6 := run_part_row (P := Tryd.prog) row_e35 (evc_F (k := k') (c := c') (f := f') (t := t') h') W
  have q7 := run_part_row (P := Tryd.prog) row_e35 (evc_S (k := k') (c := c') (f := f') (t := t') h') W
  rw [run_equalIn_struct W 9999 46 _ _ (by kernel_rfl) (by kernel_rfl)]
  simp only [Program.fieldsOf, Tryd.underlying46]
  rw [show (k == k' && (c == c' && (f == f' && (t == t' && (A == A' && (B == B' && (F == F' && S == S'))))))) = (k == k' && (c == c' && (f == f' && (t == t' && (A == A' && (B == B' && (F == F' && (S == S' && true)))))))) by simp]
  exact eqFields_cons (by decide) p0 q0 (eI _ _) (eqFields_cons (by decide) p1 q1 (eI _ _) (eqFields_cons (by decide) p2 q2 (eI _ _) (eqFields_cons (by decide) p3 q3 (eI _ _)
    (eqFields_cons (by decide) p4 q4 (eA _ _ h.a h'.a) (eqFields_cons (by decide) p5 q5 (eA _ _ h.b h'.b) (eqFields_cons (by decide) p6 q6 (eE _ _ h.f h'.f) (eqFields_cons (by decide) p7 q7 (eE _ _ h.s h'.s) (by simp [Op.eqFields, Sem.run_pure]))))))))
theorem ev_places (w : World) : (((Tryd.prog.fieldsOf 46).mapM fun f => do pure (f.offset, ← sizeOf f.type) : Sem (Array (Nat × Nat)))).run Tryd.prog w = .ok evPlaces w := by kernel_rfl
theorem ev_struct : Tryd.prog.underlying 46 = some (.struct (Tryd.prog.fieldsOf 46)) := by kernel_rfl
theorem ev_fill {k c f t : Int} {A B F S : List Nat} {i : Nat} {v : Value} {off size : Nat} {rest : List (Nat × Value)} (hp : evPlaces[i]? = some (off, size)) (hs : v.cells.size = size) (h : EvOk A B F S) (hb : off + size ≤ 1156) {X : List Value} (hX : splice (evl k c f t A B F S) off v.cells.toList = X):
    Instr.fill (evPlaces[·]?) (evc k c f t A B F S) ((i, v) :: rest) = Instr.fill (evPlaces[·]?) X.toArray rest := by
  rw [fill_cons hp hs (by rw [evc_size h]; exact hb)]
  congr 2
theorem bld_ev6 (k c f t : Int) (A B : List Nat) (hA : A.length = 16) (hB : B.length = 16) (w : World) : (Instr.build 46 #[(0, .int .i64 k), (1, .int .i64 c), (2, .int .i64 f), (3, .int .i64 t), (4, .agg (cellsOf .u8 A)), (5, .agg (cellsOf .u8 B))]).run Tryd.prog w = .ok (.agg (evc k c f t A B (zeros 560) (zeros 560))) w := by
  refine run_build_struct ev_struct evi_zero ev_places ?_ w
  show Instr.fill (evPlaces[·]?) (evc 0 0 0 0 (zeros 16) (zeros 16) (zeros 560) (zeros 560)) _ = _
  have o := ok0
  have o2 : EvOk A (zeros 16) (zeros 560) (zeros 560) := ⟨hA, o.b, o.f, o.s⟩
  rw [ev_fill (size := 1) rfl rfl o (by omega) (evl_k k)]
  show Instr.fill (evPlaces[·]?) (evc k 0 0 0 (zeros 16) (zeros 16) (zeros 560) (zeros 560)) _ = _
  rw [ev_fill (size := 1) rfl rfl o (by omega) (evl_c c)]
  show Instr.fill (evPlaces[·]?) (evc k c 0 0 (zeros 16) (zeros 16) (zeros 560) (zeros 560)) _ = _
  rw [ev_fill (size := 1) rfl rfl o (by omega) (evl_f f)]
  show Instr.fill (evPlaces[·]?) (evc k c f 0 (zeros 16) (zeros 16) (zeros 560) (zeros 560)) _ = _
  rw [ev_fill (size := 1) rfl rfl o (by omega) (evl_t t)]
  show Instr.fill (evPlaces[·]?) (evc k c f t (zeros 16) (zeros 16) (zeros 560) (zeros 560)) _ = _
  rw [ev_fill rfl (by simp [Value.cells, hA]) o (by omega) (evl_A o hA)]
  show Instr.fill (evPlaces[·]?) (evc k c f t A (zeros 16) (zeros 560) (zeros 560)) _ = _
  rw [ev_fill rfl (by simp [Value.cells, hB]) o2 (by omega) (evl_B o2 hB)]
  rfl
theorem bld_ev3 (k : Int) (F S : List Nat) (hF : F.length = 560) (hS : S.length = 560) (w : World) : (Instr.build 46 #[(0, .int .i64 k), (6, .agg (cellsOf .u8 F)), (7, .agg (cellsOf .u8 S))]).run Tryd.prog w = .ok (.agg (evc k 0 0 0 (zeros 16) (zeros 16) F S)) w := by
  refine run_build_struct ev_struct evi_zero ev_places ?_ w
  show Instr.fill (evPlaces[·]?) (evc 0 0 0 0 (zeros 16) (zeros 16) (zeros 560) (zeros 560)) _ = _
  have o := ok0
  have o2 : EvOk (zeros 16) (zeros 16) F (zeros 560) := ⟨o.a, o.b, hF, o.s⟩
  rw [ev_fill (size := 1) rfl rfl o (by omega) (evl_k k)]
  show Instr.fill (evPlaces[·]?) (evc k 0 0 0 (zeros 16) (zeros 16) (zeros 560) (zeros 560)) _ = _
  rw [ev_fill rfl (by simp [Value.cells, hF]) o (by omega) (evl_F o hF)]
  show Instr.fill (evPlaces[·]?) (evc k 0 0 0 (zeros 16) (zeros 16) F (zeros 560)) _ = _
  rw [ev_fill rfl (by simp [Value.cells, hS]) o2 (by omega) (evl_S o2 hS)]
  rfl
end Go.Proofs.YtbbdnlcjjcmllaaDoor.Once
