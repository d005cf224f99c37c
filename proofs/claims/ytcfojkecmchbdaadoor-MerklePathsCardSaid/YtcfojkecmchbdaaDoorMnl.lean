/- Contracts of merkle.Verify; known. known. -/
import Derived.Test.YtcfojkecmchbdaaDoorMal
import Derived.Lib.SlBytesConst
namespace Go.Bul
open Go
theorem wpHeld_stepG {P : Program} {ops : Array Oper} {S : World → Prop} {K : Act → Prop} {a : Act} {o : Oper} {l : List Oper} {v : Value} (hg : Region.wanted o (yielded ops a.tmps) = true) (hy : ∀ w, S w → (execOp a.eval o).run P w = .ok (.value v) w)
    (h : ∀ K' : Act → Prop, (∀ a', wpHeld P ops S K l a' → K' a') → K' (a.put o.dst v)) : wpHeld P ops S K (o :: l) a :=
  ⟨v, .inl ⟨hg, hy⟩, h _ fun _ h => h⟩
theorem wpList_wanted {P : Program} {w : World} {ops : Array Oper} {rest : List Oper} {a : Act} {Q : Exit → Act → World → Prop} {dst : Option Tmp} {op : Op} {type : TypeId} {pos : String} {after : Array Edge} {g : Nat × Bool}
    (hw : Region.wanted ⟨dst, op, type, pos, after, some g⟩ (yielded ops a.tmps) = true) (h : wpList P ops Q (⟨dst, op, type, pos, after, none⟩ :: rest) a w) : wpList P ops Q (⟨dst, op, type, pos, after, some g⟩ :: rest) a w := by
  unfold wpList at h ⊢
  rw [if_pos hw]
  rw [if_pos (by simp [Region.wanted])] at h
  exact h
end Go.Bul
namespace Go.Proofs.YtcfojkecmchbdaaDoor
open Go Go.RowKit Go.Bul Go.Thg Go.Lin
theorem eq_nd (x y : Nd) (W : World) : (Op.equalIn 10000 27 (.agg (ndC x)) (.agg (ndC y))).run Tryd.prog W = .ok (decide (x = y)) W := by
  have h := run_equalIn_nums W 9998 x.val y.val Tryd.underlying27 Tryd.underlying5 (by kernel_rfl) x.len y.len
  have e : (x.val == y.val) = decide (x = y) := by
    by_cases hxy : x = y
    · subst hxy; simp
    · have : ¬ x.val = y.val := fun h => hxy (Nd.ext' h)
      simp [hxy, this]
  rw [e] at h
  exact h
set_option maxRecDepth 20000 in
set_option maxHeartbeats 4000000 in
theorem verify_yes (r x : Nd) (idx : Int) (A : Option Addr) (n c : Nat) (path : List Nd) (w : World) (hr : NIn w A n path) (hn : n ≤ 10) (h0 : 0 ≤ idx) (h1 : idx < 2 ^ n) (hT : Tab w) :
    Calls Tryd.prog 22 #[.agg (ndC r), .agg (ndC x), .int .i64 idx, .slice A n c] w fun e w' => e = .returned (.bool (decide (climbs idx 0 x path = r))) ∧ Below w.heap.size w w' := by
  have hM := Mem.start [] w
  have HF := Lib.hid (fun w' (hb : Below w.heap.size w w') => from_yes x idx A n c path w' (hr.keep hb) hn h0 h1 (hT.keep hb))
  generalize climbs idx 0 x path = Z at HF ⊢
  have hq := eq_nd Z r
  clear hr hn h0 h1 hT
  obtain ⟨d, hd⟩ : ∃ d, decide (Z = r) = d := ⟨_, rfl⟩
  rw [hd] at hq ⊢
  clear hd
  go_enter Tryd.func22, Tryd.ntmps22
  go_wp2_with (first | ((with_reducible refine (HF.out _ hM.below).mono ?_); rintro e w1 ⟨rfl, hb⟩; replace hM := hM.step hb; clear hb) | ((first | with_reducible refine at_load ?_ | ((with_reducible refine at_load_g ?_ ?_); (· rfl))); first | refine ll hM ?_ | refine lc hM ?_ | refine lp hM ?_) | ((with_reducible refine at_store ?_); first | (refine lw hM ?_; clear hM; intro wx hM) | (refine ls hM ?_; clear hM; intro wx hM) | (refine lt hM ?_; clear hM; intro wx hM)) | ((with_reducible refine at_alloc ?_); refine lz hM ?_; clear hM; intro gx wx hM) | ((with_reducible refine at_box ?_); refine lb hM ?_; clear hM; intro gx wx hM))
  go_ret
  exact ⟨rfl, hM.below⟩
end Go.Proofs.YtcfojkecmchbdaaDoor
namespace Go.Lin
open Go Go.Bul
theorem known_ne : ¬ leafN 0 [97] = leafN 1 [98] := by
  intro h
  have h2 : (leafN 0 [97]).val = (leafN 1 [98]).val := by rw [h]
  have h3 : half (leafL 0 [97]) = half (leafL 1 [98]) := h2
  unfold half at h3
  rw [sha_eval, sha_eval] at h3
  exact absurd h3 (by decide +kernel)
theorem known_root (a b : Nd) : rootH [a, b] 1 = joinN 1 a b := rfl
theorem known_path (a b : Nd) : climbs 1 0 b [a] = joinN 1 a b := rfl
end Go.Lin
namespace Go.Proofs.YtcfojkecmchbdaaDoor
open Go Go.RowKit Go.Bul Go.Thg Go.Lin
theorem nin_1 {w w0 : World} {G : List Nat} {L : List Ent} {R : List Thing} {g : Nat} {t : TypeId} {x : Nd} (hM : Mem G w0 L R w) (hL : ⟨g, t, 16, ndC x⟩ ∈ L) : NIn w (some ⟨g, 0, none⟩) 1 [x] := by
  have hB := hM.blk hL
  refine ⟨by rw [ndCells_length]; rfl, fun _ => ⟨g, 0, rfl, hB.lt, fun j u hu => (hB.cell _).trans ?_⟩⟩
  rw [Nat.zero_add]
  have e : ndCells [x] = vals .u8 x.val := by simp [ndCells]
  rw [e] at hu
  simpa [ndC, cellsOf] using hu
theorem nin_2 {w w0 : World} {G : List Nat} {L : List Ent} {R : List Thing} {g : Nat} {t : TypeId} {x y : Nd} (hM : Mem G w0 L R w) (hL : ⟨g, t, 32, ndC2 x y⟩ ∈ L) : NIn w (some ⟨g, 0, none⟩) 2 [x, y] := by
  have hB := hM.blk hL
  refine ⟨by rw [ndCells_length]; rfl, fun _ => ⟨g, 0, rfl, hB.lt, fun j u hu => (hB.cell _).trans ?_⟩⟩
  rw [Nat.zero_add]
  have e : ndCells [x, y] = vals .u8 (x.val ++ y.val) := by simp [ndCells, vals]
  rw [e] at hu
  simpa [ndC2, cellsOf] using hu
theorem reads_marked {w : World} {g b : Nat} {t : TypeId} {m : Nat × Nat} (h : w.heap[g]? = some (.cells #[.int .u8 (b : Nat)] t m)) : Reads w 1 (some ⟨g, 0, none⟩) 1 (vals .u8 [b]) :=
  ⟨rfl, fun _ => ⟨g, 0, rfl, (Array.getElem?_eq_some_iff.1 h).1, fun j u hu => by
    rw [Nat.zero_add, cell_of_row w g j _ t m h]
    simpa [vals] using hu⟩⟩
set_option maxRecDepth 20000 in
set_option maxHeartbeats 4000000 in
theorem known_any (w : World) (hT : Tab w) : Calls Tryd.prog 11 #[] w fun e w' => e = .returned (.bool true) ∧ Below w.heap.size w w' := by
  have hM := Mem.start [] w
  have HT := Lib.hid hT
  have HA := Lib.hid (fun g w' (h : Reads w' 1 (some ⟨g, 0, none⟩) 1 (vals .u8 [97])) (hT : Tab w') => leaf_any 0 (some ⟨g, 0, none⟩) 1 1 [97] w' h (by intro x hx; simp at hx; omega) (by decide) hT)
  have HB := Lib.hid (fun g w' (h : Reads w' 1 (some ⟨g, 0, none⟩) 1 (vals .u8 [98])) (hT : Tab w') => leaf_any 1 (some ⟨g, 0, none⟩) 1 1 [98] w' h (by intro x hx; simp at hx; omega) (by decide) hT)
  have kc := fun (w : World) (C : Array Value) (n c : Nat) => Lib.run_convert_bytes_const (P := Tryd.prog) w 22 5 C n c Tryd.underlying22 Tryd.underlying5
  have hne := known_ne
  obtain ⟨a, ha⟩ : ∃ a, leafN 0 [97] = a := ⟨_, rfl⟩
  obtain ⟨b, hb⟩ : ∃ b, leafN 1 [98] = b := ⟨_, rfl⟩
  rw [ha] at HA hne
  rw [hb] at HB hne
  have HR := Lib.hid (fun g w' (h : NIn w' (some ⟨g, 0, none⟩) 2 [a, b]) (hT : Tab w') => root_yes (some ⟨g, 0, none⟩) 2 2 1 [a, b] w' h rfl (by decide) hT)
  rw [known_root] at HR
  have HJ := Lib.hid (fun w' (hT : Tab w') => join_any 1 a b w' hT)
  have HV := Lib.hid (fun g w' (h : NIn w' (some ⟨g, 0, none⟩) 1 [a]) (hT : Tab w') => verify_yes (joinN 1 a b) b 1 (some ⟨g, 0, none⟩) 1 1 [a] w' h (by decide) (by decide) (by decide) hT)
  rw [known_path, decide_eq_true rfl] at HV
  have q1 := eq_nd a b
  rw [decide_eq_false hne] at q1
  generalize joinN 1 a b = Z at HR HJ HV
  have q2 := eq_nd Z Z
  rw [decide_eq_true rfl] at q2
  clear hT hne ha hb
  go_enter Tryd.func11, Tryd.ntmps11
  go_wp2_with fail
  refine (HA.out w.heap.size _ (reads_marked (b := 97) (heap_alloc_new w _)) (HT.out.keep ((Below.refl _ _).alloc (Nat.le_refl _) _))).mono ?_
  rintro e w1 ⟨rfl, hb⟩
  replace hM := (hM.step ((Below.refl w.heap.size w).alloc (Nat.le_refl _) (.cells #[.int .u8 97] 5 (1, 2)))).step hb
  clear hb
  go_wp2_with fail
  refine (HB.out w1.heap.size _ (reads_marked (b := 98) (heap_alloc_new w1 _)) (HT.out.keep (hM.step ((Below.refl w1.heap.size w1).alloc (Nat.le_refl _) (.cells #[.int .u8 98] 5 (1, 2)))).below)).mono ?_
  rintro e w2 ⟨rfl, hb⟩
  replace hM := (hM.step ((Below.refl w1.heap.size w1).alloc (Nat.le_refl _) (.cells #[.int .u8 98] 5 (1, 2)))).step hb
  clear hb kc HA HB
  go_upto_region 3 with (first | (refine lbn2 hM ?_; clear hM; intro gn wn hM) | ((with_reducible refine (HR.out _ _ (nin_2 hM (List.Mem.head _)) (HT.out.keep hM.below)).mono ?_); rintro e w1 ⟨rfl, hb⟩; replace hM := hM.step hb; clear hb) | ((first | with_reducible refine at_load ?_ | ((with_reducible refine at_load_g ?_ ?_); (· rfl))); first | refine ll hM ?_ | refine lc hM ?_ | refine lp hM ?_) | ((with_reducible refine at_store ?_); first | (refine lw hM ?_; clear hM; intro wx hM) | (refine ls hM ?_; clear hM; intro wx hM) | (refine lt hM ?_; clear hM; intro wx hM)) | ((with_reducible refine at_alloc ?_); refine lz hM ?_; clear hM; intro gx wx hM) | ((with_reducible refine at_box ?_); refine lb hM ?_; clear hM; intro gx wx hM))
  obtain ⟨g3, hg3⟩ := hM.name1
  subst hg3
  replace hM := hM.subL (L' := [_, _, _]) (List.Sublist.cons_cons _ (List.Sublist.cons _ (List.Sublist.cons_cons _ (List.Sublist.cons_cons _ (List.nil_sublist _)))))
  obtain ⟨g2, hg2⟩ := (hM.subL (List.sublist_cons_self _ _)).name1
  obtain ⟨g1, hg1⟩ := (hM.subL (List.Sublist.cons _ (List.Sublist.cons _ (List.Sublist.refl _)))).name1
  subst hg2 hg1
  refine wp_region_allHM hM (HeldM [⟨g3, 27, 16, ndC Z⟩, ⟨g2, 27, 16, ndC b⟩, ⟨g1, 27, 16, ndC a⟩]) (by kernel_rfl) ?_
  clear hM
  intro wd hM
  have hS := HeldM.of hM
  refine wpAllH_takes [0, 1, 2, 3, 4, 5, 6, 7, 8, 9, 10] (by kernel_rfl) (fun _ _ _ _ _ h => h) hS (by kernel_rfl) ?_
  simp only [pickOps, List.filterMap_cons, List.filterMap_nil, List.getElem?_cons_zero, List.getElem?_cons_succ]
  repeat ((with_reducible apply wpHeld_stepG); (· rfl); (· (intro w hSw; first | (go_simp; rfl) | ((obtain ⟨_, _, _, hM'⟩ := hSw; exact yields_load (C := fun _ => True) (ql hM') rfl)))); intro K hK; go_simp; (with_reducible refine hK _ ?_); clear hK K)
  refine wpHeld_nil ?_
  refine wpAllH_one 11 rfl (by kernel_rfl) ?_
  go_wp2_with fail
  refine (HJ.out _ (HT.out.keep hM.below)).mono ?_
  rintro e w3 ⟨rfl, hb⟩
  replace hM := hM.step hb
  clear hb hS
  go_wp2_with fail
  have hS := HeldM.of hM
  refine then_normal ⟨hS, ?_⟩
  refine wpAllH_takes [12, 13, 14, 15, 16, 17] (by kernel_rfl) (fun _ _ _ _ _ h => h) hS (by kernel_rfl) ?_
  simp only [pickOps, List.filterMap_cons, List.filterMap_nil, List.getElem?_cons_zero, List.getElem?_cons_succ]
  repeat ((with_reducible apply wpHeld_stepG); (· rfl); (· (intro w hSw; first | (go_simp; rfl) | ((obtain ⟨_, _, _, hM'⟩ := hSw; exact yields_load (C := fun _ => True) (ql hM') rfl)))); intro K hK; go_simp; (with_reducible refine hK _ ?_); clear hK K)
  refine wpHeld_nil ?_
  refine wpAllH_one 18 rfl (by kernel_rfl) ?_
  refine wpList_wanted (by rfl) ?_
  refine lbn1 hM ?_
  clear hM hS
  intro gn w4 hM
  have hS := HeldM.of (hM.subL (List.sublist_cons_self _ _))
  refine wpList_then ⟨hS, ?_⟩
  go_simp
  refine wpAllH_one 19 rfl (by kernel_rfl) ?_
  go_wp2_with fail
  refine (HV.out _ _ (nin_1 hM (List.Mem.head _)) (HT.out.keep hM.below)).mono ?_
  rintro e w5 ⟨rfl, hb⟩
  replace hM := hM.step hb
  clear hb hS
  go_wp2_with fail
  have hS := HeldM.of (hM.subL (List.sublist_cons_self _ _))
  refine then_normal ⟨hS, ?_⟩
  refine wpAllH_takes [20, 21] (by kernel_rfl) (fun _ _ _ _ _ h => h) hS (by kernel_rfl) ?_
  simp only [pickOps, List.filterMap_cons, List.filterMap_nil, List.getElem?_cons_zero, List.getElem?_cons_succ]
  repeat ((with_reducible apply wpHeld_stepG); (· rfl); (· (intro w hSw; first | (go_simp; rfl) | (fail))); intro K hK; go_simp; (with_reducible refine hK _ ?_); clear hK K)
  refine wpHeld_nil ?_
  refine wpAllH_done (by kernel_rfl) ?_
  go_wp2_with fail
  go_ret
  exact ⟨rfl, hM.below⟩
end Go.Proofs.YtcfojkecmchbdaaDoor
