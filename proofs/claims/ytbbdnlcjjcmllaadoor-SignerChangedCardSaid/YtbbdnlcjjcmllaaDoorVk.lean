/- Drawn regions over the heap predicate: loads first, the rest in its order; what a call made beside all else. Contract of merkle.Join. Rows of nodes, of rows; slices.Clone at nodes; levels of a tree. -/
import Derived.Test.YtbbdnlcjjcmllaaDoorVj
import Derived.Test.YtbbdnlcjjcmllaaDoorVg
namespace Go.Thg
open Go Go.RowKit Go.Bul
section
variable {P : Program} {w w0 w' : World} {G : List Nat} {L L' : List Ent} {R R' : List Thing} {Q : Exit → Act → World → Prop}
/-- What was made beside all that was known. -/
theorem Mem.frame (h : Mem G w0 L R w) (k : Mem [] w L' R' w') : Mem G w0 (L' ++ L) (R' ++ R) w' := by
  have h1 := h.step k.below
  have hge : ∀ g ∈ foot L' R', w.heap.size ≤ g := fun g hg => by simpa using k.own g hg
  have hp : (foot (L' ++ L) (R' ++ R)).Perm (foot L' R' ++ foot L R) := by
    simp only [foot, List.map_append, List.flatMap_append, List.append_assoc]
    refine List.Perm.append_left _ ?_
    rw [← List.append_assoc, ← List.append_assoc]
    exact List.Perm.append_right _ List.perm_append_comm
  refine ⟨h1.old, ?_, ?_, ?_, ?_⟩
  · intro b hb
    rcases List.mem_append.1 hb with hb | hb
    · exact k.blk_ b hb
    · exact h1.blk_ b hb
  · intro r hr
    rcases List.mem_append.1 hr with hr | hr
    · exact k.thing r hr
    · exact h1.thing r hr
  · intro g hg
    rcases List.mem_append.1 (hp.mem_iff.1 hg) with hg | hg
    · exact .inl (Nat.le_trans h.le (hge g hg))
    · exact h.own g hg
  · refine hp.nodup_iff.2 (List.nodup_append.2 ⟨k.sep, h.sep, fun g hg j hj => ?_⟩)
    have := hge g hg
    have := h.lt hj
    omega
theorem wp_region_allB (hM : Mem G w0 L R w) {id : Nat} {a : Act} {l : List Oper} (k : Nat) (hm : P.follows .mixedOrders = true)
    (h : ∀ wd, Mem G w0 L R wd → wpAllT P l.toArray Q (fun w' => Below wd.heap.size wd w') k (Array.replicate l.toArray.size false) a wd) : (Code.region id l.toArray true).wp P Q a w :=
  wp_region_allT _ k hm (h _ hM.drew)
end
end Go.Thg
namespace Go.Proofs.YtbbdnlcjjcmllaaDoor
open Go Go.RowKit Go.Bul Go.Thg Go.Lin
theorem cells_list (k : IntKind) (l : List Nat) : (cellsOf k l).toList = vals k l := by simp [cellsOf]
set_option maxRecDepth 20000 in
set_option maxHeartbeats 4000000 in
theorem join_any (z : Int) (a b : Nd) (w : World) (hT : Tab w) :
    Calls Tryd.prog 32 #[.int .i64 z, .agg (ndC a), .agg (ndC b)] w fun e w' => e = .returned (.agg (ndC (joinN z a b))) ∧ Below w.heap.size w w' := by
  have hM := Mem.start [] w
  have hN := wrap_u8 z
  have HH : Hid (joinN z a b = halfN ([1, (z % 256).toNat] ++ (a.val ++ b.val))) := Lib.hid rfl
  have HB : Hid (Bytes ([1, (z % 256).toNat] ++ (a.val ++ b.val))) := Lib.hid (bytes_join z a b)
  have HL : Hid (([1, (z % 256).toNat] ++ (a.val ++ b.val)).length = 34) := Lib.hid (joinL_length z a b)
  have hN3 : (z % 256).toNat < 256 := by omega
  generalize (z % 256).toNat = N at hN HH HB HL hN3
  have n0 : (0 : Int) ≤ (N : Int) := Int.natCast_nonneg _
  have n1 : (N : Int) < 256 := by omega
  have HT := Lib.hid hT
  generalize joinN z a b = Z at HH ⊢
  clear hT
  go_enter Tryd.func32, Tryd.ntmps32
  go_wp2_with (first | ((first | with_reducible refine at_load ?_ | ((with_reducible refine at_load_g ?_ ?_); (· rfl))); first | refine lc hM ?_ | refine ll hM ?_ | refine lp hM ?_) | ((with_reducible refine at_store ?_); first | (refine ls hM ?_; clear hM; intro wx hM) | (refine lw hM ?_; clear hM; intro wx hM) | (refine lt hM ?_; clear hM; intro wx hM)) | ((with_reducible refine at_alloc ?_); refine lz hM ?_; clear hM; intro gx wx hM) | ((with_reducible refine at_box ?_); refine lb hM ?_; clear hM; intro gx wx hM))
  obtain ⟨g5, hg5⟩ := (hM.subL (List.sublist_cons_self _ _)).name1
  obtain ⟨g4, hg4⟩ := (hM.subL (List.Sublist.cons _ (List.Sublist.cons _ (List.Sublist.refl _)))).name1
  subst hg5 hg4
  replace hM := hM.drew
  refine wp_region_all (by kernel_rfl) ?_
  refine wpAll_takes [0, 1, 3, 4] (by kernel_rfl) (fun _ _ _ _ _ h => h) (by kernel_rfl) ?_
  simp only [pickOps, List.filterMap_cons, List.filterMap_nil, List.getElem?_cons_zero, List.getElem?_cons_succ]
  repeat ((with_reducible apply wpPure_step); (· rfl); (· (intro w; go_simp; rfl)); intro K hK; go_simp; (with_reducible refine hK _ ?_); clear hK K)
  refine wpPure_nil ?_
  refine wpAll_one 2 rfl (by kernel_rfl) ?_
  refine lbb2 hM ?_
  clear hM
  intro g1 w1 hM
  refine wpList_then ?_
  go_simp
  refine wpAll_one 5 rfl (by kernel_rfl) ?_
  refine lbs3 hM ?_
  clear hM
  intro g2 w2 hM
  refine wpList_then ?_
  go_simp
  have hcin : CIn w2 (some ⟨g2, 0, none⟩) 3 [(.slice (some ⟨g1, 0, none⟩) 2 2, [1, N]), (.slice (some ⟨g4, 0, none⟩) 16 16, a.val), (.slice (some ⟨g5, 0, none⟩) 16 16, b.val)] := by
    refine ⟨reads_ent hM (List.Mem.head _), fun p hp => ?_⟩
    simp only [List.mem_cons, List.not_mem_nil, or_false] at hp
    rcases hp with rfl | rfl | rfl
    · exact ⟨_, 2, rfl, reads_ent hM (List.Mem.tail _ (List.Mem.head _))⟩
    · refine ⟨some ⟨g4, 0, none⟩, 16, by rw [a.len], ?_⟩
      have h := reads_ent hM (g := g4) (t := 41) (n := 16) (cs := ndC a) (by repeat (first | exact List.Mem.head _ | apply List.Mem.tail))
      rw [cells_list] at h
      rw [a.len]
      exact h
    · refine ⟨some ⟨g5, 0, none⟩, 16, by rw [b.len], ?_⟩
      have h := reads_ent hM (g := g5) (t := 41) (n := 16) (cs := ndC b) (by repeat (first | exact List.Mem.head _ | apply List.Mem.tail))
      rw [cells_list] at h
      rw [b.len]
      exact h
  refine wpAll_one 6 rfl (by kernel_rfl) ?_
  go_wp2_with fail
  refine (concat_any (c := 3) hcin (by simp [total, a.len, b.len]) (by decide)).mono ?_
  rintro e w3 ⟨cA, cc, rfl, hb⟩
  replace hM := hM.newThing hb
  clear hb hcin
  go_wp2_with fail
  refine then_normal ?_
  obtain ⟨Y, hY⟩ : ∃ Y, [1, N] ++ (a.val ++ b.val) = Y := ⟨_, rfl⟩
  have hfl : flatP [(Value.slice (some ⟨g1, 0, none⟩) 2 2, [1, N]), (Value.slice (some ⟨g4, 0, none⟩) 16 16, a.val), (Value.slice (some ⟨g5, 0, none⟩) 16 16, b.val)] = Y := by rw [← hY]; simp [flatP]
  have hYl : Y.length ≤ 1000000 := by rw [← hY, HL.out]; decide
  have HZ := Lib.hid (show Z = halfN Y by rw [HH.out, hY])
  have hYb : Bytes Y := by rw [← hY]; exact HB.out
  rw [hfl] at hM ⊢
  obtain ⟨hrd, _, hnc⟩ := bT_reads (hM.thing _ (List.Mem.head _))
  have HS := Lib.hid (half_c hrd hYb hnc hYl (HT.out.keep hM.below))
  clear hrd hnc hfl hY hYl hYb
  refine wpAll_one 7 rfl (by kernel_rfl) ?_
  go_wp2_with fail
  refine HS.out.mono ?_
  rintro e w4 ⟨rfl, hb⟩
  replace hM := hM.step hb
  clear hb
  go_wp2_with fail
  refine then_normal ?_
  refine wpAll_one 8 rfl (by kernel_rfl) ?_
  refine lw hM ?_
  clear hM
  intro w5 hM
  refine wpList_then (wpAll_done (by kernel_rfl) ?_)
  go_wp2_with fail
  exact bodyPost_ret (results_mem_cell hM rfl (by rfl) (by repeat (first | exact List.Mem.head _ | apply List.Mem.tail)) (by first | exact row_nd | exact row_n | exact row_half | exact row_a32 | exact row_nd2 | exact row_n2 | exact row_two | exact row_claim | exact row_bld | exact row_bnds)) rfl ⟨by rw [HZ.out], hM.below⟩
end Go.Proofs.YtbbdnlcjjcmllaaDoor
namespace Go.Lin
open Go Go.Bul
/-- Nodes, as cells. -/
def ndCells (l : List Nd) : List Value := l.flatMap fun x => vals .u8 x.val
theorem ndCells_length (l : List Nd) : (ndCells l).length = l.length * 16 := by
  induction l with
  | nil => rfl
  | cons x l ih => simp only [ndCells, List.flatMap_cons, List.length_append, List.length_cons, vals_length, x.len] at ih ⊢; omega
theorem ndCells_one (l : List Nd) : ∀ u ∈ ndCells l, u.oneCell' = true := by
  intro u hu
  obtain ⟨x, _, hx⟩ := List.mem_flatMap.1 hu
  exact vals_one _ _ u hx
theorem ndCells_app (a b : List Nd) : ndCells (a ++ b) = ndCells a ++ ndCells b := by simp [ndCells]
theorem ndCells_get : ∀ (l : List Nd) (i : Nat) (h : i < l.length) (j : Nat) (u : Value), (ndC l[i])[j]? = some u → (ndCells l)[i * 16 + j]? = some u
  | x :: l, 0, _, j, u, hu => by
    have hj : j < 16 := by rw [← ndC_size x]; exact (Array.getElem?_eq_some_iff.1 hu).1
    have e : ndCells (x :: l) = vals .u8 x.val ++ ndCells l := by simp [ndCells]
    have hj2 : j < (vals .u8 x.val).length := by rw [vals_length, x.len]; exact hj
    rw [e, Nat.zero_mul, Nat.zero_add, List.getElem?_append_left hj2]
    simpa [ndC, cellsOf] using hu
  | x :: l, i + 1, h, j, u, hu => by
    have e : ndCells (x :: l) = vals .u8 x.val ++ ndCells l := by simp [ndCells]
    have h16 : (vals .u8 x.val).length = 16 := by rw [vals_length, x.len]
    have hi : i < l.length := by simpa using h
    rw [e, List.getElem?_append_right (by rw [h16]; omega), h16, show (i + 1) * 16 + j - 16 = i * 16 + j by omega]
    exact ndCells_get l i hi j u hu
/-- The parents of a level. -/
def up (k : Nat) : List Nd → List Nd
  | a :: b :: l => joinN (k : Int) a b :: up k l
  | _ => []
theorem up_length (k : Nat) : ∀ l : List Nd, (up k l).length = l.length / 2
  | [] => rfl
  | [_] => by simp [up]
  | a :: b :: l => by
    simp only [up, List.length_cons, up_length k l]
    omega
/-- Two more. -/
theorem up_take (k : Nat) : ∀ (l : List Nd) (i : Nat) (h : 2 * i + 1 < l.length), up k (l.take (2 * (i + 1))) = up k (l.take (2 * i)) ++ [joinN (k : Int) (l[2 * i]'(by omega)) l[2 * i + 1]]
  | [], i, h => by simp at h
  | [_], i, h => by simp at h
  | a :: b :: l, 0, _ => by simp [up]
  | a :: b :: l, i + 1, h => by
    have e1 : (a :: b :: l).take (2 * (i + 1 + 1)) = a :: b :: l.take (2 * (i + 1)) := by rw [show 2 * (i + 1 + 1) = 2 * (i + 1) + 1 + 1 by omega]; rfl
    have e2 : (a :: b :: l).take (2 * (i + 1)) = a :: b :: l.take (2 * i) := by rw [show 2 * (i + 1) = 2 * i + 1 + 1 by omega]; rfl
    have hl : 2 * i + 1 < l.length := by simp at h; omega
    rw [e1, e2]
    simp only [up, List.cons_append]
    rw [up_take k l i hl]
    rfl
def lvl (leaves : List Nd) : Nat → List Nd
  | 0 => leaves
  | k + 1 => up (k + 1) (lvl leaves k)
theorem lvl_length (leaves : List Nd) : ∀ k : Nat, (lvl leaves k).length = leaves.length / 2 ^ k
  | 0 => by simp [lvl]
  | k + 1 => by
    rw [lvl, up_length, lvl_length leaves k, Nat.div_div_eq_div_mul, Nat.pow_succ]
def lvls (leaves : List Nd) (n : Nat) : List (List Nd) := (List.range n).map (lvl leaves)
theorem lvls_succ (leaves : List Nd) (n : Nat) : lvls leaves (n + 1) = lvls leaves n ++ [lvl leaves n] := by simp [lvls, List.range_succ]
theorem lvls_length (leaves : List Nd) (n : Nat) : (lvls leaves n).length = n := by simp [lvls]
end Go.Lin
namespace Go.Proofs.YtbbdnlcjjcmllaaDoor
open Go Go.RowKit Go.Bul Go.Thg Go.Lin
/-- Nodes that a slice reads as; a row of them; a row of slices. -/
def NIn (w : World) (A : Option Addr) (n : Nat) (l : List Nd) : Prop := Reads w 16 A n (ndCells l)
theorem NIn.len {w : World} {A : Option Addr} {n : Nat} {l : List Nd} (h : NIn w A n l) : n = l.length := by
  have := h.1
  rw [ndCells_length] at this
  omega
theorem NIn.keep {w w' : World} {A : Option Addr} {n : Nat} {l : List Nd} (h : NIn w A n l) (hb : Below w.heap.size w w') : NIn w' A n l := Reads.keep h hb
theorem NIn.row {w : World} {A : Option Addr} {n : Nat} {l : List Nd} (h : NIn w A n l) (i : Nat) (hi : i < l.length) : ∃ g off, A = some ⟨g, off, none⟩ ∧ g < w.heap.size ∧ ∀ j u, (ndC l[i])[j]? = some u → w.cell? ⟨g, off + i * 16 + j, none⟩ = some u := by
  obtain ⟨g, off, rfl, hg, hc⟩ := h.2 (by have := h.len; omega)
  refine ⟨g, off, rfl, hg, fun j u hu => ?_⟩
  have := hc _ _ (ndCells_get l i hi j u hu)
  rwa [← Nat.add_assoc] at this
def ndT (v : Value) (l : List Nd) : Thing := rowT 41 16 v l.length (ndCells l)
def slT (v : Value) (vs : List Value) : Thing := rowT 69 1 v vs.length vs
def ndRows (vs : List Value) (lv : List (List Nd)) : List Thing := (vs.zip lv).map fun x => ndT x.1 x.2
theorem ndT_form {v : Value} {l : List Nd} {w : World} (h : (ndT v l).P w) : ∃ A c, v = .slice A l.length c ∧ l.length ≤ c ∧ NIn w A l.length l := by
  obtain ⟨A, c, h1, h2, _⟩ := OffRow.form h
  subst h1
  exact ⟨A, c, rfl, h2, OffRow.reads h⟩
theorem ndT_in {A : Option Addr} {n c : Nat} {l : List Nd} {w : World} (h : (ndT (.slice A n c) l).P w) : NIn w A n l := by
  obtain ⟨A', c', he, _, hn⟩ := ndT_form h
  have e1 : A = A' := by injection he
  have e2 : n = l.length := by injection he
  subst e1 e2
  exact hn
theorem ndRows_snoc {vs : List Value} {lv : List (List Nd)} (hl : vs.length = lv.length) (v : Value) (l : List Nd) : ndRows (vs ++ [v]) (lv ++ [l]) = ndRows vs lv ++ [ndT v l] := by
  unfold ndRows
  rw [List.zip_append hl, List.map_append]
  rfl
theorem ndRows_mem {vs : List Value} {lv : List (List Nd)} (hl : vs.length = lv.length) (i : Nat) (h : i < lv.length) : ndT (vs[i]'(by omega)) lv[i] ∈ ndRows vs lv := by
  unfold ndRows
  refine List.mem_map.2 ⟨(vs[i]'(by omega), lv[i]), ?_, rfl⟩
  rw [List.mem_iff_getElem]
  exact ⟨i, by simp; omega, by simp⟩
theorem nbecomes_zero {G : List Nat} {w w' : World} (A : Option Addr) (h : KeptBut G w w') : Becomes G w (ndT (.slice A 0 0) []) w' :=
  ⟨OffRow.empty w' _ _ A, h, fun g hg => by rw [show (ndT (.slice A 0 0) []).fp = [] from sFp_zero] at hg; cases hg⟩
section
variable {w w0 : World} {G : List Nat} {L : List Ent} {R : List Thing} {ops : Array Oper} {rest : List Oper} {o : Oper} {a : Act} {Q : Exit → Act → World → Prop} {s x : Operand} {v y : Value} {xs ys : List Nd} {m : Nat} {F : Thing → List Thing} {A : Option Addr} {n c : Nat}
/-- append nodes onto a row of nodes. -/
theorem lan (hs : Src Tryd.prog 16 69 y m (ndCells ys) w) (hM : Mem G w0 L R w) (h63 : xs.length + ys.length ≤ 1000000000)
    (h : ∀ A' N c' w', Hid (N = (xs ++ ys).length) → Mem G w0 L (F (ndT (.slice A' N c') (xs ++ ys))) w' → wpList Tryd.prog ops Q rest (a.put o.dst (.slice A' N c')) w')
    (hgd : o.guard = none := by rfl) (ho : o.op = .call { callee := .builtin .append, args := #[s, x], argTypes := #[69, 69] } := by rfl) (hv : a.eval s = v := by rfl) (hR : UpdR (ndT v xs) R F := by repeat (first | exact UpdR.head _ _ | apply UpdR.tail)) (hy : a.eval x = y := by rfl) : wpList Tryd.prog ops Q (o :: rest) a w := by
  have hl : m = ys.length := by have := hs.newsLen; rw [ndCells_length] at this; omega
  subst hl
  refine wpList_append_thing hM 69 _ 41 (.agg (ndC nd0)) 16 16 Tryd.underlying69 info_nd (by exact ndC_size _) hgd s x ho v hv xs.length (ndCells xs) F hR y hy _ _ hs h63 (by decide) fun A' N c' w' hN hm => ?_
  refine h A' N c' w' (Lib.hid (by simp [hN])) ?_
  have e : ndT (.slice A' N c') (xs ++ ys) = rowT 41 16 (.slice A' N c') N (ndCells xs ++ ndCells ys) := by
    unfold ndT
    rw [hN, ndCells_app]
    simp
  rw [e]
  exact hm
theorem info_sl : (Tryd.prog.info? 69).map (fun i => (i.zero, i.size, i.bytes)) = some (some (.slice none 0 0), 1, 24) := by kernel_rfl
/-- append a slice onto a row of slices. -/
theorem lasl {vs : List Value} {B : Option Addr} {k d : Nat} {g : Nat} (hM : Mem G w0 (⟨g, 69, 1, #[.slice B k d]⟩ :: L) (slT v vs :: R) w) (h63 : vs.length ≤ 1000000)
    (h : ∀ A' N c' w', Hid (N = (vs ++ [Value.slice B k d]).length) → Mem G w0 (⟨g, 69, 1, #[.slice B k d]⟩ :: L) (slT (.slice A' N c') (vs ++ [Value.slice B k d]) :: R) w' → wpList Tryd.prog ops Q rest (a.put o.dst (.slice A' N c')) w')
    (hgd : o.guard = none := by rfl) (ho : o.op = .call { callee := .builtin .append, args := #[s, x], argTypes := #[124, 124] } := by rfl) (hv : a.eval s = v := by rfl) (hx : a.eval x = .slice (some ⟨g, 0, none⟩) 1 1 := by rfl) : wpList Tryd.prog ops Q (o :: rest) a w := by
  have hB : Blk w g 69 #[.slice B k d] := hM.blk (List.Mem.head _)
  have hs : Src Tryd.prog 1 124 (.slice (some ⟨g, 0, none⟩) 1 1) 1 [.slice B k d] w := by
    refine Src.ofSlice w Tryd.underlying124 _ 1 1 _ rfl (fun j u hu => ?_) (by simp [Value.oneCell'])
    rw [addr_at]
    exact (hB.cell _).trans (by rw [Nat.zero_add]; simpa using hu)
  refine wpList_append_thing hM 124 124 69 _ 1 24 Tryd.underlying124 info_sl rfl hgd s x ho v hv vs.length vs _ (UpdR.head _ _) _ hx 1 _ hs (by omega) (by decide) fun A' N c' w' hN hm => ?_
  refine h A' N c' w' (Lib.hid (by simp [hN])) ?_
  have e : slT (.slice A' N c') (vs ++ [Value.slice B k d]) = rowT 69 1 (.slice A' N c') N (vs ++ [Value.slice B k d]) := by
    unfold slT
    rw [hN]
    simp
  rw [e]
  exact hm
/-- A block becomes a row. -/
theorem ent_row {g n k size : Nat} {t : TypeId} {cs : Array Value} (hM : Mem G w0 (⟨g, t, n, cs⟩ :: L) R w) (hk : 0 < k) (hk2 : k ≤ 1000000) (hn : n = k * size) : Mem G w0 L (rowT t size (.slice (some ⟨g, 0, none⟩) k k) k cs.toList :: R) w := by
  have hB := hM.blk (List.Mem.head _)
  have hsz := hM.size (List.Mem.head _)
  have hP : OffRow w t size (.slice (some ⟨g, 0, none⟩) k k) k cs.toList := by
    refine ⟨by rw [Array.length_toList, hsz, hn], _, _, rfl, Nat.le_refl _, by unfold maxLen; omega, fun _ => ⟨g, 0, cs, rfl, hB, by rw [hsz, hn, Nat.zero_add]; exact Nat.le_refl _, fun j hj => by rw [Nat.zero_add]; simp⟩⟩
  refine hM.repack (fun b hb => hM.blk_ b (List.mem_cons_of_mem _ hb)) (fun r hr => ?_) ?_
  · rcases List.mem_cons.1 hr with rfl | hr
    · exact hP
    · exact hM.thing r hr
  · simp only [foot, List.flatMap_cons, List.map_cons]
    rw [show (rowT t size (.slice (some ⟨g, 0, none⟩) k k) k cs.toList).fp = [g] from sFp_pos hk]
    exact (List.perm_append_comm_assoc _ _ _).trans (by simp)
end
set_option maxRecDepth 20000 in
theorem nclone_any (A : Option Addr) (n c : Nat) (xs : List Nd) (w : World) (hr : NIn w A n xs) (h63 : n ≤ 1000000000) :
    Calls Tryd.prog 73 #[.slice A n c] w fun e w' => ∃ A' c', e = .returned (.slice A' n c') ∧ Becomes [] w (ndT (.slice A' n c') xs) w' := by
  have hM := Mem.start [] w
  have hq := fun w => Lib.run_eql_slice_nil (P := Tryd.prog) w 69 41 A n c 0 0 Tryd.underlying69
  have HR := Lib.hid hr
  have hn := hr.len
  cases A with
  | none =>
    have h0 : n = 0 := by
      rcases Nat.eq_zero_or_pos n with h0 | h0
      · exact h0
      · obtain ⟨_, _, he, _⟩ := hr.2 h0
        cases he
    subst h0
    obtain rfl : xs = [] := List.eq_nil_of_length_eq_zero hn.symm
    have hq' : ∀ w, (binOp .eql 69 (.slice none 0 c) (.slice none 0 0)).run Tryd.prog w = .ok (.bool true) w := hq
    clear hr hq h63 hn HR
    go_enter Tryd.func73, Tryd.ntmps73
    go_wp2_with (first | ((first | with_reducible refine at_load ?_ | ((with_reducible refine at_load_g ?_ ?_); (· rfl))); first | refine lc hM ?_ | refine ll hM ?_ | refine lp hM ?_) | ((with_reducible refine at_store ?_); first | (refine ls hM ?_; clear hM; intro wx hM) | (refine lw hM ?_; clear hM; intro wx hM) | (refine lt hM ?_; clear hM; intro wx hM)) | ((with_reducible refine at_alloc ?_); refine lz hM ?_; clear hM; intro gx wx hM) | ((with_reducible refine at_box ?_); refine lb hM ?_; clear hM; intro gx wx hM))
    go_ret
    exact ⟨none, 0, rfl, nbecomes_zero none (KeptBut.refl _ _)⟩
  | some ad =>
    have HN := Lib.hid hn
    clear hr hn
    have hq' : ∀ w, (binOp .eql 69 (.slice (some ad) n c) (.slice none 0 0)).run Tryd.prog w = .ok (.bool false) w := hq
    clear hq
    have M1 := fun (cs : Array Value) (t : TypeId) (g : Addr) => (hM.step ((Below.refl _ _).alloc (Nat.le_refl _) (.cells cs t))).newThing (nbecomes_zero (some g) (KeptBut.refl _ _))
    have MM := Lib.hid M1
    have S1 := fun (cs : Array Value) (t : TypeId) => (Reads.keep HR.out ((Below.refl _ _).alloc (Nat.le_refl _) (.cells cs t))).src (c := c) (P := Tryd.prog) (tx := 69) Tryd.underlying69 (ndCells_one _)
    have SS := Lib.hid S1
    have hle : ([] : List Nd).length + xs.length ≤ 1000000000 := by have := HN.out; simp; omega
    clear M1 S1 hM
    go_enter Tryd.func73, Tryd.ntmps73
    go_wp2_with (first | ((with_reducible refine at_append ?_); refine lan (SS.out _ _) (MM.out _ _ _) hle ?_; intro A' N c' wx hN hM) | ((first | with_reducible refine at_load ?_ | ((with_reducible refine at_load_g ?_ ?_); (· rfl))); first | refine lc hM ?_ | refine ll hM ?_ | refine lp hM ?_) | ((with_reducible refine at_store ?_); first | (refine ls hM ?_; clear hM; intro wx hM) | (refine lw hM ?_; clear hM; intro wx hM) | (refine lt hM ?_; clear hM; intro wx hM)) | ((with_reducible refine at_alloc ?_); refine lz hM ?_; clear hM; intro gx wx hM) | ((with_reducible refine at_box ?_); refine lb hM ?_; clear hM; intro gx wx hM))
    have hN' : N = n := by rw [hN.out, HN.out]; rfl
    subst hN'
    go_ret
    exact ⟨A', c', rfl, hM.becomes (by exact List.Mem.head _)⟩
end Go.Proofs.YtbbdnlcjjcmllaaDoor
