/- A line, read. Contract of a line's Clone. Contracts of bytes.Equal, slices.Equal at windows. -/
import Derived.Test.YtenflgbaibjeoaaLqm
import Derived.Test.YtenflgbaibjeoaaLnr
import Derived.Test.YtenflgbaibjeoaaLsa
import Derived.Test.YtenflgbaibjeoaaLni
namespace Go.Proofs.Ytenflgbaibjeoaa
open Go Go.RowKit Go.Bul Go.Thg Go.Lin
/-- Packets that a slice reads as, with their bytes. -/
structure PkB (w : World) (A : Option Addr) (n : Nat) (way : List (List Nat × Int)) : Prop where
  len : n = way.length
  at_ : 0 < n → ∃ g off, A = some ⟨g, off, none⟩ ∧ g < w.heap.size ∧ ∀ i (h : i < way.length), ∃ A' c', (∀ j u, (#[.slice A' way[i].1.length c', .int .i64 way[i].2] : Array Value)[j]? = some u → w.cell? ⟨g, off + i * 2 + j, none⟩ = some u) ∧ Reads w 1 A' way[i].1.length (vals .u8 way[i].1)
theorem PkB.keep {w w' : World} {A : Option Addr} {n : Nat} {way : List (List Nat × Int)} (h : PkB w A n way) (hb : Below w.heap.size w w') : PkB w' A n way :=
  ⟨h.len, fun h0 => by
    obtain ⟨g, off, rfl, hg, hx⟩ := h.at_ h0
    refine ⟨g, off, rfl, Nat.lt_of_lt_of_le hg hb.size, fun i hi => ?_⟩
    obtain ⟨A', c', h1, h2⟩ := hx i hi
    exact ⟨A', c', fun j u hu => (hb.cell (p := ⟨g, off + i * 2 + j, none⟩) hg).trans (h1 j u hu), h2.keep hb⟩⟩
section
variable {G : List Nat} {w0 w : World} {L : List Ent} {R : List Thing} {p : Nat} {S : Ln} {A : Option Addr} {n c : Nat} {fp : List Nat} {way : List (List Nat × Int)}
theorem bT_read {A : Option Addr} {n c : Nat} {xs : List Nat} (hn : n = xs.length) (h : (bT (.slice A n c) xs).P w) : Reads w 1 A n (vals .u8 xs) := by
  subst hn
  have h' : OffRow w 5 1 (.slice A xs.length c) xs.length (vals .u8 xs) := h
  exact OffRow.reads h'
theorem pk_b (h : Mem G w0 L (wayT fp (.slice A n c) way :: R) w) : PkB w A n way := by
  obtain ⟨pvs, hl, hM⟩ := way_open h
  have hr : OffRow w 99 2 (.slice A n c) way.length (pktCells pvs way) := hM.thing _ (List.Mem.head _)
  obtain ⟨A', c', he, _⟩ := hr.form
  have e1 : n = way.length := by injection he
  subst e1
  refine ⟨rfl, fun h0 => ?_⟩
  obtain ⟨g, off, rfl, hg, hc, _⟩ := hr.cells h0
  refine ⟨g, off, rfl, hg, fun i hi => ?_⟩
  have hi2 : i < pvs.length := by omega
  obtain ⟨c0, c1⟩ := pktCells_get pvs way hl i hi hi2
  have hm : bT pvs[i] way[i].1 ∈ pktRows pvs way := by
    unfold pktRows
    refine List.mem_map.2 ⟨(pvs[i], way[i]), ?_, rfl⟩
    rw [List.mem_iff_getElem]
    exact ⟨i, by simp; omega, by simp⟩
  have hb := hM.thing _ (List.mem_cons_of_mem _ (List.mem_append_left _ hm))
  obtain ⟨Ab, cb, hv, _⟩ := bT_form hb
  rw [hv] at c0 hb
  refine ⟨Ab, cb, fun j u hu => ?_, bT_read rfl hb⟩
  match j, hu with
  | 0, hu => simp at hu; subst hu; exact hc _ _ c0
  | 1, hu => simp at hu; subst hu; have := hc _ _ c1; rwa [← Nat.add_assoc] at this
  | j + 2, hu => simp at hu
/-- A line, as it is read. -/
structure LnIn (w : World) (p : Nat) (S : Ln) (x : LV) : Prop where
  blk : Blk w p 88 (lineCs S x)
  ws : Wins w x.cv.A S.ws.length S.ws
  w0 : Reads w 1 x.w0.A S.e0.wait.length (vals .u8 S.e0.wait)
  y0 : PkB w x.y0.A S.e0.way.length S.e0.way
  a0 : Reads w 1 x.a0.A S.e0.arr.length (vals .u8 S.e0.arr)
  w1 : Reads w 1 x.w1.A S.e1.wait.length (vals .u8 S.e1.wait)
  y1 : PkB w x.y1.A S.e1.way.length S.e1.way
  a1 : Reads w 1 x.a1.A S.e1.arr.length (vals .u8 S.e1.arr)
theorem LnIn.keep {w' : World} {x : LV} (h : LnIn w p S x) (hb : Below w.heap.size w w') : LnIn w' p S x :=
  ⟨h.blk.kept hb, h.ws.keep hb, h.w0.keep hb, h.y0.keep hb, h.a0.keep hb, h.w1.keep hb, h.y1.keep hb, h.a1.keep hb⟩
theorem HasLine.read (h : HasLine G w0 L R p S w) : ∃ x, LnIn w p S x := by
  obtain ⟨x, hM⟩ := h.open
  refine ⟨x, hM.blk (List.Mem.head _), winT_wins (hM.thing _ (List.Mem.head _)), bT_read rfl (hM.thing _ (List.Mem.tail _ (List.Mem.head _))), pk_b (Mem.toFront [_, _] hM), bT_read rfl (hM.thing _ (List.Mem.tail _ (List.Mem.tail _ (List.Mem.tail _ (List.Mem.head _))))), bT_read rfl (hM.thing _ (List.Mem.tail _ (List.Mem.tail _ (List.Mem.tail _ (List.Mem.tail _ (List.Mem.head _)))))), pk_b (Mem.toFront [_, _, _, _, _] hM), bT_read rfl (hM.thing _ (List.Mem.tail _ (List.Mem.tail _ (List.Mem.tail _ (List.Mem.tail _ (List.Mem.tail _ (List.Mem.tail _ (List.Mem.head _))))))))⟩
end
end Go.Proofs.Ytenflgbaibjeoaa
namespace Go.Proofs.Ytenflgbaibjeoaa
open Go Go.RowKit Go.Bul Go.Thg Go.Lin
theorem cells_of {w : World} {p n : Nat} {t : TypeId} {cs X : Array Value} (hB : Blk w p t cs) (i : Nat) (hX : cs.extract i (i + n) = X) : ∀ j u, X[j]? = some u → w.cell? ⟨p, i + j, none⟩ = some u := by
  subst hX
  intro j u hu
  rw [hB.cell]
  rw [Array.getElem?_extract] at hu
  split at hu
  · exact hu
  · cases hu
theorem idx_end0 (v0 v1 v2 v3 v4 v5 : Value) (W : World) : (Instr.index 86 (.agg #[v0, v1, v2, v3, v4, v5]) (.int .i64 0)).run Try.prog W = .ok (.agg #[v0, v1, v2]) W := by
  obtain ⟨d, hu, hd, hi⟩ := row_end.ex
  simp [Instr.index, asIntOf, run_underlying Try.underlying86, Sem.run_bind, part, run_isAgg hu hd, Go.Bul.run_sizeOf hi]
theorem idx_end1 (v0 v1 v2 v3 v4 v5 : Value) (W : World) : (Instr.index 86 (.agg #[v0, v1, v2, v3, v4, v5]) (.int .i64 1)).run Try.prog W = .ok (.agg #[v3, v4, v5]) W := by
  obtain ⟨d, hu, hd, hi⟩ := row_end.ex
  simp [Instr.index, asIntOf, run_underlying Try.underlying86, Sem.run_bind, part, run_isAgg hu hd, Go.Bul.run_sizeOf hi]
set_option maxRecDepth 20000 in
set_option maxHeartbeats 40000000 in
theorem cloneln_any {w : World} {p : Nat} {S : Ln} {x : LV} (h : LnIn w p S x) (hw : S.ws.length ≤ 1000000000) (h0 : S.e0.wait.length ≤ 1000000000) (h1 : S.e0.arr.length ≤ 1000000000) (h2 : S.e0.way.length ≤ 100000000) (h3 : ∀ x ∈ S.e0.way, x.1.length ≤ 1000000000)
    (h4 : S.e1.wait.length ≤ 1000000000) (h5 : S.e1.arr.length ≤ 1000000000) (h6 : S.e1.way.length ≤ 100000000) (h7 : ∀ x ∈ S.e1.way, x.1.length ≤ 1000000000) :
    Calls Try.prog 39 #[.pointer (some ⟨p, 0, none⟩)] w fun e w' => ∃ g, e = .returned (.pointer (some ⟨g, 0, none⟩)) ∧ HasLine [] w [] [] g S w' := by
  have hM := Mem.start [] w
  obtain ⟨r, d, q, ws, now, up, ses, ⟨u0, y0, a0⟩, ⟨u1, y1, a1⟩⟩ := S
  obtain ⟨⟨cA, cc⟩, ⟨W0, wc0⟩, ⟨Y0, yc0⟩, ⟨A0, ac0⟩, ⟨W1, wc1⟩, ⟨Y1, yc1⟩, ⟨A1, ac1⟩, fa, fb⟩ := x
  simp only at hw h0 h1 h2 h3 h4 h5 h6 h7
  have HI := Lib.hid h
  have l1 := h0
  have l2 := h1
  have l3 := h3
  have l4 := h4
  have l5 := h5
  have l6 := h7
  have HP := Lib.hid (fun w' (hb : Below w.heap.size w w') => cells_of (n := 13) (X := #[.int .i64 r, .int .i64 d, .int .i64 q, .slice cA ws.length cc, .int .i64 now, .bool up, .int .i64 ses, .slice W0 u0.length wc0, .slice Y0 y0.length yc0, .slice A0 a0.length ac0, .slice W1 u1.length wc1, .slice Y1 y1.length yc1, .slice A1 a1.length ac1]) (h.keep hb).blk 0 rfl)
  have HE := Lib.hid (fun w' (hb : Below w.heap.size w w') => cells_of (n := 6) (X := #[.slice W0 u0.length wc0, .slice Y0 y0.length yc0, .slice A0 a0.length ac0, .slice W1 u1.length wc1, .slice Y1 y1.length yc1, .slice A1 a1.length ac1]) (h.keep hb).blk 7 rfl)
  have HC := Lib.hid (fun w' (hb : Below w.heap.size w w') => (((h.keep hb).blk.cell 3).trans rfl : w'.cell? ⟨p, 3, none⟩ = some (Value.slice cA ws.length cc)))
  have HV := Lib.hid (fun w' (hb : Below w.heap.size w w') => wclone_any cA ws.length cc ws w' (h.keep hb).ws hw)
  clear h
  have ix0 := idx_end0 (.slice W0 u0.length wc0) (.slice Y0 y0.length yc0) (.slice A0 a0.length ac0) (.slice W1 u1.length wc1) (.slice Y1 y1.length yc1) (.slice A1 a1.length ac1)
  have ix1 := idx_end1 (.slice W0 u0.length wc0) (.slice Y0 y0.length yc0) (.slice A0 a0.length ac0) (.slice W1 u1.length wc1) (.slice Y1 y1.length yc1) (.slice A1 a1.length ac1)
  go_enter Try.func39, Try.ntmps39
  go_wp2_with (first | ((with_reducible refine at_load ?_); first | refine lr (HP.out _ hM.below) ?_ | refine lr (HE.out _ hM.below) ?_ | refine lo (HC.out _ hM.below) ?_) | ((with_reducible refine (HV.out _ hM.below).mono ?_); rintro e w1 ⟨nC, nc, rfl, hb⟩; replace hM := hM.newThing hb; clear hb) | ((with_reducible refine at_store ?_); refine ls hM ?_ (v := .slice nC ws.length nc) (hX := by exact set_13_3); clear hM; intro wx hM) | ((first | with_reducible refine at_load ?_ | ((with_reducible refine at_load_g ?_ ?_); (· rfl))); first | refine lc hM ?_ | refine ll hM ?_ | refine lp hM ?_) | ((with_reducible refine at_store ?_); first | (refine ls hM ?_; clear hM; intro wx hM) | (refine lw hM ?_; clear hM; intro wx hM) | (refine lt hM ?_; clear hM; intro wx hM)) | ((with_reducible refine at_alloc ?_); refine lz hM ?_; clear hM; intro gx wx hM) | ((with_reducible refine at_box ?_); refine lb hM ?_; clear hM; intro gx wx hM))
  obtain ⟨g3, hg3⟩ := hM.name1
  subst hg3
  refine wp_loop_rounds 3 ?_
  rw [rounds_succ]
  go_upto_region 8 with (first | ((first | with_reducible refine at_load ?_ | ((with_reducible refine at_load_g ?_ ?_); (· rfl))); first | refine lc hM ?_ | refine ll hM ?_ | refine lp hM ?_) | ((with_reducible refine at_store ?_); first | (refine ls hM ?_; clear hM; intro wx hM) | (refine lw hM ?_; clear hM; intro wx hM) | (refine lt hM ?_; clear hM; intro wx hM)) | ((with_reducible refine at_alloc ?_); refine lz hM ?_; clear hM; intro gx wx hM) | ((with_reducible refine at_box ?_); refine lb hM ?_; clear hM; intro gx wx hM))
  have hM1 := hM.subL (L' := [_, _]) (List.Sublist.cons_cons _ (List.Sublist.cons_cons _ (List.nil_sublist _)))
  clear hM
  have hM := hM1
  clear hM1
  obtain ⟨g5, hg5⟩ := hM.name1
  subst hg5
  refine wp_region_allHM hM (HeldM [⟨g5, 85, 3, #[.slice W0 u0.length wc0, .slice Y0 y0.length yc0, .slice A0 a0.length ac0]⟩]) (by kernel_rfl) ?_
  clear hM
  intro wd hM
  have hS := HeldM.of (hM.subL (List.Sublist.cons_cons _ (List.nil_sublist _)))
  refine wpAllH_takes [0, 1, 2, 4, 5, 8] (by kernel_rfl) (fun _ _ _ _ _ h => h) hS (by kernel_rfl) ?_
  simp only [pickOps, List.filterMap_cons, List.filterMap_nil, List.getElem?_cons_zero, List.getElem?_cons_succ]
  repeat ((with_reducible apply wpHeld_step); (· rfl); (· (intro w hSw; first | (go_simp; rfl) | ((obtain ⟨_, _, _, hM'⟩ := hSw; first | exact yields_load (C := fun _ => True) (qc hM') rfl | exact yields_load (C := fun _ => True) (ql hM') rfl)))); intro K hK; go_simp; (with_reducible refine hK _ ?_); clear hK K)
  refine wpHeld_nil ?_
  refine wpAllH_one 3 rfl (by kernel_rfl) ?_
  go_wp2_with fail
  refine (clone_any _ _ _ _ _ (HI.out.keep hM.below).w0 rfl l1).mono ?_
  rintro e w1 ⟨nW0, nw0, rfl, hb⟩
  replace hM := hM.newThing hb
  clear hb hS
  go_wp2_with fail
  have hS := HeldM.of (hM.subL (List.Sublist.cons_cons _ (List.nil_sublist _)))
  refine then_normal ⟨hS, ?_⟩
  refine wpAllH_one 6 rfl (by kernel_rfl) ?_
  go_wp2_with fail
  refine (clone_any _ _ _ _ _ (HI.out.keep hM.below).a0 rfl l2).mono ?_
  rintro e w1 ⟨nA0, na0, rfl, hb⟩
  replace hM := hM.newThing hb
  clear hb hS
  go_wp2_with fail
  have hS := HeldM.of (hM.subL (List.Sublist.cons_cons _ (List.nil_sublist _)))
  refine then_normal ⟨hS, ?_⟩
  refine wpAllH_takes [7, 9] (by kernel_rfl) (fun _ _ _ _ _ h => h) hS (by kernel_rfl) ?_
  simp only [pickOps, List.filterMap_cons, List.filterMap_nil, List.getElem?_cons_zero, List.getElem?_cons_succ]
  repeat ((with_reducible apply wpHeld_step); (· rfl); (· (intro w hSw; first | (go_simp; rfl) | (fail))); intro K hK; go_simp; (with_reducible refine hK _ ?_); clear hK K)
  refine wpHeld_nil ?_
  refine wpAllH_one 10 rfl (by kernel_rfl) ?_
  refine lt hM ?_ (vs := #[.slice nW0 u0.length nw0, .slice none 0 0, .slice nA0 a0.length na0]) (X := #[.int .i64 r, .int .i64 d, .int .i64 q, .slice nC ws.length nc, .int .i64 now, .bool up, .int .i64 ses, .slice nW0 u0.length nw0, .slice none 0 0, .slice nA0 a0.length na0, .slice W1 u1.length wc1, .slice Y1 y1.length yc1, .slice A1 a1.length ac1]) (hX := by rfl)
  clear hM hS
  intro wx hM
  refine wpList_then ⟨HeldM.of (hM.subL (List.Sublist.cons_cons _ (List.nil_sublist _))), ?_⟩
  refine wpAllH_done (by kernel_rfl) ?_
  go_wp2_with (first | ((first | with_reducible refine at_load ?_ | ((with_reducible refine at_load_g ?_ ?_); (· rfl))); first | refine lc hM ?_ | refine ll hM ?_ | refine lp hM ?_) | ((with_reducible refine at_store ?_); first | (refine ls hM ?_; clear hM; intro wx hM) | (refine lw hM ?_; clear hM; intro wx hM) | (refine lt hM ?_; clear hM; intro wx hM)) | ((with_reducible refine at_alloc ?_); refine lz hM ?_; clear hM; intro gx wx hM) | ((with_reducible refine at_box ?_); refine lb hM ?_; clear hM; intro gx wx hM))
  have hM1 := hM.subL (List.sublist_cons_self _ _)
  have hM2 := hM1.newThing (r := wayT [] (.slice none 0 0) []) ⟨way_nil none _, KeptBut.refl _ _, fun g hg => by cases hg⟩
  have M0 := Lib.hid hM2
  clear hM hM1 hM2
  go_loopw [42] (fun i wr => ∃ (j : Nat) (A' : Option Addr) (c' : Nat) (fp' : List Nat), j ≤ y0.length ∧ i = .int .i64 (j : Nat) ∧ Mem [] w [⟨g3, 88, 13, #[.int .i64 r, .int .i64 d, .int .i64 q, .slice nC ws.length nc, .int .i64 now, .bool up, .int .i64 ses, .slice nW0 u0.length nw0, .slice A' j c', .slice nA0 a0.length na0, .slice W1 u1.length wc1, .slice Y1 y1.length yc1, .slice A1 a1.length ac1]⟩] (wayT fp' (.slice A' j c') (y0.take j) :: bT (.slice nA0 a0.length na0) a0 :: bT (.slice nW0 u0.length nw0) u0 :: [winT (.slice nC ws.length nc) ws]) wr) (fun i _ => y0.length - (intOf i).toNat)
  case atStart => exact ⟨0, none, 0, [], by omega, rfl, M0.out⟩
  case round =>
    clear M0
    obtain ⟨j, A', c', fp', hj, rfl, hM⟩ := hrel
    by_cases hlt : j < y0.length
    · have q0 : (0 : Int) ≤ (j : Int) := Int.natCast_nonneg _
      have q1 : (j : Int) < (y0.length : Int) := by omega
      obtain ⟨gy, oy, rfl, hgy, hx⟩ := HI.out.y0.at_ (by show 0 < y0.length; omega)
      obtain ⟨Ab, cb, hcell, hread⟩ := hx j hlt
      have HX := Lib.hid (fun w' (hb : Below w.heap.size w w') u v hu => (hb.cell (p := ⟨gy, oy + j * 2 + u, none⟩) hgy).trans (hcell u v hu))
      have HB := Lib.hid (fun w' (hb : Below w.heap.size w w') => hread.keep hb)
      have hbl := l3 _ (List.getElem_mem hlt)
      have htk : y0.take (j + 1) = y0.take j ++ [y0[j]] := List.take_succ_eq_append_getElem hlt
      have hlen : (y0.take j).length = j := by rw [List.length_take]; omega
      obtain ⟨⟨bs, mm⟩, hbm⟩ : ∃ x, y0[j] = x := ⟨_, rfl⟩
      rw [hbm] at HX HB hbl htk
      simp only at hbl
      have HTK := Lib.hid htk
      have HLN := Lib.hid hlen
      clear hcell hread hx htk hlen hbm
      go_upto_region 12 with (first | ((with_reducible refine at_load ?_); refine lr (HX.out _ hM.below) ?_) | ((first | with_reducible refine at_load ?_ | ((with_reducible refine at_load_g ?_ ?_); (· rfl))); first | refine lc hM ?_ | refine ll hM ?_ | refine lp hM ?_) | ((with_reducible refine at_store ?_); first | (refine ls hM ?_; clear hM; intro wx hM) | (refine lw hM ?_; clear hM; intro wx hM) | (refine lt hM ?_; clear hM; intro wx hM)) | ((with_reducible refine at_alloc ?_); refine lz hM ?_; clear hM; intro gx wx hM) | ((with_reducible refine at_box ?_); refine lb hM ?_; clear hM; intro gx wx hM))
      obtain ⟨g7, hg7⟩ := hM.name1
      subst hg7
      obtain ⟨pvs, hpl, hM1⟩ := way_open hM
      have HPL := Lib.hid hpl
      clear hM hpl
      have hM := hM1
      clear hM1
      refine wp_region_allTM hM 17 (fun w' => ∃ L' R', Mem [] w (⟨g7, 99, 2, #[.slice Ab bs.length cb, .int .i64 mm]⟩ :: ⟨g3, 88, 13, #[.int .i64 r, .int .i64 d, .int .i64 q, .slice nC ws.length nc, .int .i64 now, .bool up, .int .i64 ses, .slice nW0 u0.length nw0, .slice A' j c', .slice nA0 a0.length na0, .slice W1 u1.length wc1, .slice Y1 y1.length yc1, .slice A1 a1.length ac1]⟩ :: L') R' w') (by kernel_rfl) ?_
      clear hM
      intro wd hM
      have hS : ∃ L' R', Mem [] w (⟨g7, 99, 2, #[.slice Ab bs.length cb, .int .i64 mm]⟩ :: ⟨g3, 88, 13, #[.int .i64 r, .int .i64 d, .int .i64 q, .slice nC ws.length nc, .int .i64 now, .bool up, .int .i64 ses, .slice nW0 u0.length nw0, .slice A' j c', .slice nA0 a0.length na0, .slice W1 u1.length wc1, .slice Y1 y1.length yc1, .slice A1 a1.length ac1]⟩ :: L') R' wd := ⟨_, _, hM⟩
      refine wpAllT_takes [0, 1, 2, 3, 4, 5, 6, 7, 9, 10, 14] (by kernel_rfl) (fun _ _ _ _ _ h => h) hS (by kernel_rfl) ?_
      simp only [pickOps, List.filterMap_cons, List.filterMap_nil, List.getElem?_cons_zero, List.getElem?_cons_succ]
      repeat ((with_reducible apply wpHeld_step); (· rfl); (· (intro wq hSw; first | (go_simp; rfl) | ((obtain ⟨_, _, hM'⟩ := hSw; first | exact yields_load (C := fun _ => True) (qc hM') rfl | exact yields_load (C := fun _ => True) (ql hM') rfl)))); intro K hK; go_simp; (with_reducible refine hK _ ?_); clear hK K)
      refine wpHeld_nil ?_
      refine wpAllT_one 8 rfl (by kernel_rfl) ?_
      go_wp2_with fail
      refine (clone_any _ _ _ _ _ (HB.out _ hM.below) rfl hbl).mono ?_
      rintro e w1 ⟨nA, nbc, rfl, hb⟩
      replace hM := Mem.toFront [_] (hM.newThing hb)
      clear hb hS
      go_wp2_with fail
      have hS : ∃ L' R', Mem [] w (⟨g7, 99, 2, #[.slice Ab bs.length cb, .int .i64 mm]⟩ :: ⟨g3, 88, 13, #[.int .i64 r, .int .i64 d, .int .i64 q, .slice nC ws.length nc, .int .i64 now, .bool up, .int .i64 ses, .slice nW0 u0.length nw0, .slice A' j c', .slice nA0 a0.length na0, .slice W1 u1.length wc1, .slice Y1 y1.length yc1, .slice A1 a1.length ac1]⟩ :: L') R' w1 := ⟨_, _, hM⟩
      refine then_normal ⟨.inr hS, ?_⟩
      refine wpAllT_takes [11] (by kernel_rfl) (fun _ _ _ _ _ h => h) hS (by kernel_rfl) ?_
      simp only [pickOps, List.filterMap_cons, List.filterMap_nil, List.getElem?_cons_zero, List.getElem?_cons_succ]
      repeat ((with_reducible apply wpHeld_step); (· rfl); (· (intro wq hSw; first | (go_simp; rfl) | (fail))); intro K hK; go_simp; (with_reducible refine hK _ ?_); clear hK K)
      refine wpHeld_nil ?_
      refine wpAllT_one 12 rfl (by kernel_rfl) ?_
      refine lbp hM ?_
      clear hM hS
      intro gz wz hM
      have hS : ∃ L' R', Mem [] w (⟨g7, 99, 2, #[.slice Ab bs.length cb, .int .i64 mm]⟩ :: ⟨g3, 88, 13, #[.int .i64 r, .int .i64 d, .int .i64 q, .slice nC ws.length nc, .int .i64 now, .bool up, .int .i64 ses, .slice nW0 u0.length nw0, .slice A' j c', .slice nA0 a0.length na0, .slice W1 u1.length wc1, .slice Y1 y1.length yc1, .slice A1 a1.length ac1]⟩ :: L') R' wz := ⟨_, _, hM.subL (List.sublist_cons_self _ _)⟩
      refine wpList_then ⟨.inr hS, ?_⟩
      go_simp
      refine wpAllT_one 13 rfl (by kernel_rfl) ?_
      refine lap bs hM HPL.out (by have := HLN.out; omega) ?_
      clear hM hS
      intro nyA nN nyc wy hN hM
      have hS : ∃ L' R', Mem [] w (⟨g7, 99, 2, #[.slice Ab bs.length cb, .int .i64 mm]⟩ :: ⟨g3, 88, 13, #[.int .i64 r, .int .i64 d, .int .i64 q, .slice nC ws.length nc, .int .i64 now, .bool up, .int .i64 ses, .slice nW0 u0.length nw0, .slice A' j c', .slice nA0 a0.length na0, .slice W1 u1.length wc1, .slice Y1 y1.length yc1, .slice A1 a1.length ac1]⟩ :: L') R' wy := ⟨_, _, hM.subL (List.sublist_cons_self _ _)⟩
      refine wpList_then ⟨.inr hS, ?_⟩
      go_simp
      obtain rfl : nN = j + 1 := by have h1 := hN.out; have h2 := HLN.out; simp at h1; omega
      refine wpAllT_takes [15, 16] (by kernel_rfl) (fun _ _ _ _ _ h => h) hS (by kernel_rfl) ?_
      simp only [pickOps, List.filterMap_cons, List.filterMap_nil, List.getElem?_cons_zero, List.getElem?_cons_succ]
      repeat ((with_reducible apply wpHeld_step); (· rfl); (· (intro wq hSw; first | (go_simp; rfl) | (fail))); intro K hK; go_simp; (with_reducible refine hK _ ?_); clear hK K)
      refine wpHeld_nil ?_
      refine wpAllT_one 17 rfl (by kernel_rfl) ?_
      refine ls hM ?_ (v := .slice nyA (j + 1) nyc) (hX := by exact set_13_8)
      clear hM hS
      intro wq hM
      refine wpList_then ⟨.inl (by kernel_rfl), wpAllT_drop (by kernel_rfl) (wpAll_done (by kernel_rfl) ?_)⟩
      obtain ⟨fx, hM2⟩ := way_snoc (R := _ :: _ :: _) (hM.perm (List.Perm.cons _ List.perm_middle)) HPL.out
      clear hM
      have hM := hM2.subL (List.Sublist.cons _ (List.Sublist.cons _ (List.Sublist.refl _)))
      clear hM2
      go_wp2_with (first | ((first | with_reducible refine at_load ?_ | ((with_reducible refine at_load_g ?_ ?_); (· rfl))); first | refine lc hM ?_ | refine ll hM ?_ | refine lp hM ?_) | ((with_reducible refine at_store ?_); first | (refine ls hM ?_; clear hM; intro wx hM) | (refine lw hM ?_; clear hM; intro wx hM) | (refine lt hM ?_; clear hM; intro wx hM)) | ((with_reducible refine at_alloc ?_); refine lz hM ?_; clear hM; intro gx wx hM) | ((with_reducible refine at_box ?_); refine lb hM ?_; clear hM; intro gx wx hM))
      exact ⟨⟨j + 1, nyA, nyc, fx, by omega, by go_num, by rw [HTK.out]; exact hM⟩, by simp [intOf]; omega⟩
    · obtain rfl : j = y0.length := by omega
      rw [List.take_length] at hM
      clear hlt hj
      go_wp2_with fail
      obtain ⟨B0, rfl⟩ : ∃ V, V = A' := ⟨_, rfl⟩
      obtain ⟨b0, rfl⟩ : ∃ V, V = c' := ⟨_, rfl⟩
      obtain ⟨f0, rfl⟩ : ∃ V, V = fp' := ⟨_, rfl⟩
      rw [rounds_succ]
      go_upto_region 8 with (first | ((first | with_reducible refine at_load ?_ | ((with_reducible refine at_load_g ?_ ?_); (· rfl))); first | refine lc hM ?_ | refine ll hM ?_ | refine lp hM ?_) | ((with_reducible refine at_store ?_); first | (refine ls hM ?_; clear hM; intro wx hM) | (refine lw hM ?_; clear hM; intro wx hM) | (refine lt hM ?_; clear hM; intro wx hM)) | ((with_reducible refine at_alloc ?_); refine lz hM ?_; clear hM; intro gx wx hM) | ((with_reducible refine at_box ?_); refine lb hM ?_; clear hM; intro gx wx hM))
      have hM1 := hM.subL (L' := [_, _]) (List.Sublist.cons_cons _ (List.Sublist.cons_cons _ (List.nil_sublist _)))
      clear hM
      have hM := hM1
      clear hM1
      obtain ⟨g5, hg5⟩ := hM.name1
      subst hg5
      refine wp_region_allHM hM (HeldM [⟨g5, 85, 3, #[.slice W1 u1.length wc1, .slice Y1 y1.length yc1, .slice A1 a1.length ac1]⟩]) (by kernel_rfl) ?_
      clear hM
      intro wd hM
      have hS := HeldM.of (hM.subL (List.Sublist.cons_cons _ (List.nil_sublist _)))
      refine wpAllH_takes [0, 1, 2, 4, 5, 8] (by kernel_rfl) (fun _ _ _ _ _ h => h) hS (by kernel_rfl) ?_
      simp only [pickOps, List.filterMap_cons, List.filterMap_nil, List.getElem?_cons_zero, List.getElem?_cons_succ]
      repeat ((with_reducible apply wpHeld_step); (· rfl); (· (intro w hSw; first | (go_simp; rfl) | ((obtain ⟨_, _, _, hM'⟩ := hSw; first | exact yields_load (C := fun _ => True) (qc hM') rfl | exact yields_load (C := fun _ => True) (ql hM') rfl)))); intro K hK; go_simp; (with_reducible refine hK _ ?_); clear hK K)
      refine wpHeld_nil ?_
      refine wpAllH_one 3 rfl (by kernel_rfl) ?_
      go_wp2_with fail
      refine (clone_any _ _ _ _ _ (HI.out.keep hM.below).w1 rfl l4).mono ?_
      rintro e w1 ⟨nW1, nw1, rfl, hb⟩
      replace hM := hM.newThing hb
      clear hb hS
      go_wp2_with fail
      have hS := HeldM.of (hM.subL (List.Sublist.cons_cons _ (List.nil_sublist _)))
      refine then_normal ⟨hS, ?_⟩
      refine wpAllH_one 6 rfl (by kernel_rfl) ?_
      go_wp2_with fail
      refine (clone_any _ _ _ _ _ (HI.out.keep hM.below).a1 rfl l5).mono ?_
      rintro e w1 ⟨nA1, na1, rfl, hb⟩
      replace hM := hM.newThing hb
      clear hb hS
      go_wp2_with fail
      have hS := HeldM.of (hM.subL (List.Sublist.cons_cons _ (List.nil_sublist _)))
      refine then_normal ⟨hS, ?_⟩
      refine wpAllH_takes [7, 9] (by kernel_rfl) (fun _ _ _ _ _ h => h) hS (by kernel_rfl) ?_
      simp only [pickOps, List.filterMap_cons, List.filterMap_nil, List.getElem?_cons_zero, List.getElem?_cons_succ]
      repeat ((with_reducible apply wpHeld_step); (· rfl); (· (intro w hSw; first | (go_simp; rfl) | (fail))); intro K hK; go_simp; (with_reducible refine hK _ ?_); clear hK K)
      refine wpHeld_nil ?_
      refine wpAllH_one 10 rfl (by kernel_rfl) ?_
      refine lt hM ?_ (vs := #[.slice nW1 u1.length nw1, .slice none 0 0, .slice nA1 a1.length na1]) (X := #[.int .i64 r, .int .i64 d, .int .i64 q, .slice nC ws.length nc, .int .i64 now, .bool up, .int .i64 ses, .slice nW0 u0.length nw0, .slice B0 y0.length b0, .slice nA0 a0.length na0, .slice nW1 u1.length nw1, .slice none 0 0, .slice nA1 a1.length na1]) (hX := by rfl)
      clear hM hS
      intro wx hM
      refine wpList_then ⟨HeldM.of (hM.subL (List.Sublist.cons_cons _ (List.nil_sublist _))), ?_⟩
      refine wpAllH_done (by kernel_rfl) ?_
      go_wp2_with (first | ((first | with_reducible refine at_load ?_ | ((with_reducible refine at_load_g ?_ ?_); (· rfl))); first | refine lc hM ?_ | refine ll hM ?_ | refine lp hM ?_) | ((with_reducible refine at_store ?_); first | (refine ls hM ?_; clear hM; intro wx hM) | (refine lw hM ?_; clear hM; intro wx hM) | (refine lt hM ?_; clear hM; intro wx hM)) | ((with_reducible refine at_alloc ?_); refine lz hM ?_; clear hM; intro gx wx hM) | ((with_reducible refine at_box ?_); refine lb hM ?_; clear hM; intro gx wx hM))
      have hM1 := hM.subL (List.sublist_cons_self _ _)
      have hM2 := hM1.newThing (r := wayT [] (.slice none 0 0) []) ⟨way_nil none _, KeptBut.refl _ _, fun g hg => by cases hg⟩
      have M0 := Lib.hid hM2
      clear hM hM1 hM2
      go_loopw [42] (fun i wr => ∃ (j : Nat) (A' : Option Addr) (c' : Nat) (fp' : List Nat), j ≤ y1.length ∧ i = .int .i64 (j : Nat) ∧ Mem [] w [⟨g3, 88, 13, #[.int .i64 r, .int .i64 d, .int .i64 q, .slice nC ws.length nc, .int .i64 now, .bool up, .int .i64 ses, .slice nW0 u0.length nw0, .slice B0 y0.length b0, .slice nA0 a0.length na0, .slice nW1 u1.length nw1, .slice A' j c', .slice nA1 a1.length na1]⟩] (wayT fp' (.slice A' j c') (y1.take j) :: bT (.slice nA1 a1.length na1) a1 :: bT (.slice nW1 u1.length nw1) u1 :: wayT f0 (.slice B0 y0.length b0) y0 :: bT (.slice nA0 a0.length na0) a0 :: bT (.slice nW0 u0.length nw0) u0 :: [winT (.slice nC ws.length nc) ws]) wr) (fun i _ => y1.length - (intOf i).toNat)
      case atStart => exact ⟨0, none, 0, [], by omega, rfl, M0.out⟩
      case round =>
        clear M0
        obtain ⟨j, A', c', fp', hj, rfl, hM⟩ := hrel
        by_cases hlt : j < y1.length
        · have q0 : (0 : Int) ≤ (j : Int) := Int.natCast_nonneg _
          have q1 : (j : Int) < (y1.length : Int) := by omega
          obtain ⟨gy, oy, rfl, hgy, hx⟩ := HI.out.y1.at_ (by show 0 < y1.length; omega)
          obtain ⟨Ab, cb, hcell, hread⟩ := hx j hlt
          have HX := Lib.hid (fun w' (hb : Below w.heap.size w w') u v hu => (hb.cell (p := ⟨gy, oy + j * 2 + u, none⟩) hgy).trans (hcell u v hu))
          have HB := Lib.hid (fun w' (hb : Below w.heap.size w w') => hread.keep hb)
          have hbl := l6 _ (List.getElem_mem hlt)
          have htk : y1.take (j + 1) = y1.take j ++ [y1[j]] := List.take_succ_eq_append_getElem hlt
          have hlen : (y1.take j).length = j := by rw [List.length_take]; omega
          obtain ⟨⟨bs, mm⟩, hbm⟩ : ∃ x, y1[j] = x := ⟨_, rfl⟩
          rw [hbm] at HX HB hbl htk
          simp only at hbl
          have HTK := Lib.hid htk
          have HLN := Lib.hid hlen
          clear hcell hread hx htk hlen hbm
          go_upto_region 12 with (first | ((with_reducible refine at_load ?_); refine lr (HX.out _ hM.below) ?_) | ((first | with_reducible refine at_load ?_ | ((with_reducible refine at_load_g ?_ ?_); (· rfl))); first | refine lc hM ?_ | refine ll hM ?_ | refine lp hM ?_) | ((with_reducible refine at_store ?_); first | (refine ls hM ?_; clear hM; intro wx hM) | (refine lw hM ?_; clear hM; intro wx hM) | (refine lt hM ?_; clear hM; intro wx hM)) | ((with_reducible refine at_alloc ?_); refine lz hM ?_; clear hM; intro gx wx hM) | ((with_reducible refine at_box ?_); refine lb hM ?_; clear hM; intro gx wx hM))
          obtain ⟨g7, hg7⟩ := hM.name1
          subst hg7
          obtain ⟨pvs, hpl, hM1⟩ := way_open hM
          have HPL := Lib.hid hpl
          clear hM hpl
          have hM := hM1
          clear hM1
          refine wp_region_allTM hM 17 (fun w' => ∃ L' R', Mem [] w (⟨g7, 99, 2, #[.slice Ab bs.length cb, .int .i64 mm]⟩ :: ⟨g3, 88, 13, #[.int .i64 r, .int .i64 d, .int .i64 q, .slice nC ws.length nc, .int .i64 now, .bool up, .int .i64 ses, .slice nW0 u0.length nw0, .slice B0 y0.length b0, .slice nA0 a0.length na0, .slice nW1 u1.length nw1, .slice A' j c', .slice nA1 a1.length na1]⟩ :: L') R' w') (by kernel_rfl) ?_
          clear hM
          intro wd hM
          have hS : ∃ L' R', Mem [] w (⟨g7, 99, 2, #[.slice Ab bs.length cb, .int .i64 mm]⟩ :: ⟨g3, 88, 13, #[.int .i64 r, .int .i64 d, .int .i64 q, .slice nC ws.length nc, .int .i64 now, .bool up, .int .i64 ses, .slice nW0 u0.length nw0, .slice B0 y0.length b0, .slice nA0 a0.length na0, .slice nW1 u1.length nw1, .slice A' j c', .slice nA1 a1.length na1]⟩ :: L') R' wd := ⟨_, _, hM⟩
          refine wpAllT_takes [0, 1, 2, 3, 4, 5, 6, 7, 9, 10, 14] (by kernel_rfl) (fun _ _ _ _ _ h => h) hS (by kernel_rfl) ?_
          simp only [pickOps, List.filterMap_cons, List.filterMap_nil, List.getElem?_cons_zero, List.getElem?_cons_succ]
          repeat ((with_reducible apply wpHeld_step); (· rfl); (· (intro wq hSw; first | (go_simp; rfl) | ((obtain ⟨_, _, hM'⟩ := hSw; first | exact yields_load (C := fun _ => True) (qc hM') rfl | exact yields_load (C := fun _ => True) (ql hM') rfl)))); intro K hK; go_simp; (with_reducible refine hK _ ?_); clear hK K)
          refine wpHeld_nil ?_
          refine wpAllT_one 8 rfl (by kernel_rfl) ?_
          go_wp2_with fail
          refine (clone_any _ _ _ _ _ (HB.out _ hM.below) rfl hbl).mono ?_
          rintro e w1 ⟨nA, nbc, rfl, hb⟩
          replace hM := Mem.toFront [_] (hM.newThing hb)
          clear hb hS
          go_wp2_with fail
          have hS : ∃ L' R', Mem [] w (⟨g7, 99, 2, #[.slice Ab bs.length cb, .int .i64 mm]⟩ :: ⟨g3, 88, 13, #[.int .i64 r, .int .i64 d, .int .i64 q, .slice nC ws.length nc, .int .i64 now, .bool up, .int .i64 ses, .slice nW0 u0.length nw0, .slice B0 y0.length b0, .slice nA0 a0.length na0, .slice nW1 u1.length nw1, .slice A' j c', .slice nA1 a1.length na1]⟩ :: L') R' w1 := ⟨_, _, hM⟩
          refine then_normal ⟨.inr hS, ?_⟩
          refine wpAllT_takes [11] (by kernel_rfl) (fun _ _ _ _ _ h => h) hS (by kernel_rfl) ?_
          simp only [pickOps, List.filterMap_cons, List.filterMap_nil, List.getElem?_cons_zero, List.getElem?_cons_succ]
          repeat ((with_reducible apply wpHeld_step); (· rfl); (· (intro wq hSw; first | (go_simp; rfl) | (fail))); intro K hK; go_simp; (with_reducible refine hK _ ?_); clear hK K)
          refine wpHeld_nil ?_
          refine wpAllT_one 12 rfl (by kernel_rfl) ?_
          refine lbp hM ?_
          clear hM hS
          intro gz wz hM
          have hS : ∃ L' R', Mem [] w (⟨g7, 99, 2, #[.slice Ab bs.length cb, .int .i64 mm]⟩ :: ⟨g3, 88, 13, #[.int .i64 r, .int .i64 d, .int .i64 q, .slice nC ws.length nc, .int .i64 now, .bool up, .int .i64 ses, .slice nW0 u0.length nw0, .slice B0 y0.length b0, .slice nA0 a0.length na0, .slice nW1 u1.length nw1, .slice A' j c', .slice nA1 a1.length na1]⟩ :: L') R' wz := ⟨_, _, hM.subL (List.sublist_cons_self _ _)⟩
          refine wpList_then ⟨.inr hS, ?_⟩
          go_simp
          refine wpAllT_one 13 rfl (by kernel_rfl) ?_
          refine lap bs hM HPL.out (by have := HLN.out; omega) ?_
          clear hM hS
          intro nyA nN nyc wy hN hM
          have hS : ∃ L' R', Mem [] w (⟨g7, 99, 2, #[.slice Ab bs.length cb, .int .i64 mm]⟩ :: ⟨g3, 88, 13, #[.int .i64 r, .int .i64 d, .int .i64 q, .slice nC ws.length nc, .int .i64 now, .bool up, .int .i64 ses, .slice nW0 u0.length nw0, .slice B0 y0.length b0, .slice nA0 a0.length na0, .slice nW1 u1.length nw1, .slice A' j c', .slice nA1 a1.length na1]⟩ :: L') R' wy := ⟨_, _, hM.subL (List.sublist_cons_self _ _)⟩
          refine wpList_then ⟨.inr hS, ?_⟩
          go_simp
          obtain rfl : nN = j + 1 := by have h1 := hN.out; have h2 := HLN.out; simp at h1; omega
          refine wpAllT_takes [15, 16] (by kernel_rfl) (fun _ _ _ _ _ h => h) hS (by kernel_rfl) ?_
          simp only [pickOps, List.filterMap_cons, List.filterMap_nil, List.getElem?_cons_zero, List.getElem?_cons_succ]
          repeat ((with_reducible apply wpHeld_step); (· rfl); (· (intro wq hSw; first | (go_simp; rfl) | (fail))); intro K hK; go_simp; (with_reducible refine hK _ ?_); clear hK K)
          refine wpHeld_nil ?_
          refine wpAllT_one 17 rfl (by kernel_rfl) ?_
          refine ls hM ?_ (v := .slice nyA (j + 1) nyc) (hX := by exact set_13_11)
          clear hM hS
          intro wq hM
          refine wpList_then ⟨.inl (by kernel_rfl), wpAllT_drop (by kernel_rfl) (wpAll_done (by kernel_rfl) ?_)⟩
          obtain ⟨fx, hM2⟩ := way_snoc (R := _ :: _ :: _) (hM.perm (List.Perm.cons _ List.perm_middle)) HPL.out
          clear hM
          have hM := hM2.subL (List.Sublist.cons _ (List.Sublist.cons _ (List.Sublist.refl _)))
          clear hM2
          go_wp2_with (first | ((first | with_reducible refine at_load ?_ | ((with_reducible refine at_load_g ?_ ?_); (· rfl))); first | refine lc hM ?_ | refine ll hM ?_ | refine lp hM ?_) | ((with_reducible refine at_store ?_); first | (refine ls hM ?_; clear hM; intro wx hM) | (refine lw hM ?_; clear hM; intro wx hM) | (refine lt hM ?_; clear hM; intro wx hM)) | ((with_reducible refine at_alloc ?_); refine lz hM ?_; clear hM; intro gx wx hM) | ((with_reducible refine at_box ?_); refine lb hM ?_; clear hM; intro gx wx hM))
          exact ⟨⟨j + 1, nyA, nyc, fx, by omega, by go_num, by rw [HTK.out]; exact hM⟩, by simp [intOf]; omega⟩
        · obtain rfl : j = y1.length := by omega
          rw [List.take_length] at hM
          clear hlt hj
          go_wp2_with fail
          rw [rounds_succ]
          go_wp2_with fail
          go_ret
          exact ⟨g3, rfl, HasLine.close (x := ⟨⟨nC, nc⟩, ⟨nW0, nw0⟩, ⟨B0, b0⟩, ⟨nA0, na0⟩, ⟨nW1, nw1⟩, ⟨A', c'⟩, ⟨nA1, na1⟩, f0, fp'⟩) (Mem.toFront [_, _, _, _, _, _] (Mem.toFront [_, _, _, _, _] (Mem.toFront [_, _, _, _] (Mem.toFront [_, _, _, _] (Mem.toFront [_, _] (Mem.toFront [_] (Mem.toFront [_] hM)))))))⟩
end Go.Proofs.Ytenflgbaibjeoaa
namespace Go.Lin
open Go
/-- Two lists agree, element by element. -/
def allEq {α : Type} (f : α → α → Bool) : List α → List α → Bool
  | [], [] => true
  | a :: l, b :: l' => f a b && allEq f l l'
  | _, _ => false
theorem allEq_refl {α : Type} {f : α → α → Bool} (h : ∀ a, f a a = true) : ∀ l, allEq f l l = true
  | [] => rfl
  | a :: l => by simp [allEq, h a, allEq_refl h l]
theorem allEq_len {α : Type} {f : α → α → Bool} : ∀ {l l' : List α}, l.length ≠ l'.length → allEq f l l' = false
  | [], [], h => absurd rfl h
  | [], _ :: _, _ => rfl
  | _ :: _, [], _ => rfl
  | a :: l, b :: l', h => by
    have : allEq f l l' = false := allEq_len (by simpa using h)
    simp [allEq, this]
theorem allEq_step {α : Type} {f : α → α → Bool} {l l' : List α} {k : Nat} (h : k < l.length) (h' : k < l'.length) : allEq f (l.drop k) (l'.drop k) = (f l[k] l'[k] && allEq f (l.drop (k + 1)) (l'.drop (k + 1))) := by
  rw [List.drop_eq_getElem_cons h, List.drop_eq_getElem_cons h']
  rfl
theorem allEq_end {α : Type} {f : α → α → Bool} {l l' : List α} (h : l.length = l'.length) : allEq f (l.drop l.length) (l'.drop l.length) = true := by
  rw [List.drop_length, h, List.drop_length]
  rfl
def eqB (a b : List Nat) : Bool := decide (Go.Bul.bstr a = Go.Bul.bstr b)
def eqW (a b : Win) : Bool := decide (a.1 = b.1) && decide (a.2 = b.2)
end Go.Lin
namespace Go.Proofs.Ytenflgbaibjeoaa
open Go Go.RowKit Go.Bul Go.Thg Go.Lin
theorem str_ne {x y : ByteArray} (h : ¬ x = y) : (x.toList == y.toList) = false := by
  rw [ByteArray.toList_eq, ByteArray.toList_eq]
  exact beq_eq_false_iff_ne.2 fun e => h (ByteArray.ext (Array.toList_inj.1 e))
set_option maxRecDepth 20000 in
theorem beq_any {w : World} {A B : Option Addr} {n m c d : Nat} {xs ys : List Nat} (h1 : Reads w 1 A n (vals .u8 xs)) (h2 : Reads w 1 B m (vals .u8 ys)) :
    Calls Try.prog 58 #[.slice A n c, .slice B m d] w fun e w' => e = .returned (.bool (eqB xs ys)) ∧ w = w' := by
  have s1 := reads_str h1 c
  have s2 := reads_str h2 d
  unfold eqB
  by_cases hq : bstr xs = bstr ys
  · rw [decide_eq_true hq]
    rw [hq] at s1
    clear h1 h2 hq
    go_enter Try.func58, Try.ntmps58
    go_wp2_with fail
    go_ret
    exact ⟨rfl, rfl⟩
  · rw [decide_eq_false hq]
    have h3 := str_ne hq
    clear h1 h2 hq
    go_enter Try.func58, Try.ntmps58
    go_wp2_with fail
    go_ret
    exact ⟨rfl, rfl⟩
theorem qrow {w : World} {o : Oper} {a : Act} {C : World → Prop} {ty : TypeId} {x : Operand} {g i m : Nat} {X : Array Value} (hX : ∀ j u, X[j]? = some u → w.cell? ⟨g, i + j, none⟩ = some u) (ho : o.op = .load ty x := by rfl) (hx : a.eval x = .pointer (some ⟨g, i, none⟩) := by rfl) (hty : RowTy Try.prog ty m := by first | exact row_cfg | exact row_win | exact row_line | exact row_end | exact row_ends | exact row_pkt | exact row_C | exact row_W | exact row_L | exact row_End | exact row_Ends | exact row_B | exact row_op | exact row_str2 | exact row_b3) (hm : X.size = m := by rfl) : o.quietAt Try.prog a C w (.agg X) := by
  obtain ⟨d, hu, hd, hi⟩ := hty.ex
  have hl : (loadCells ⟨g, i, none⟩ X.toList.length).run Try.prog w = .ok X.toList.toArray w :=
    run_loadCells_list (P := Try.prog) w ⟨g, i, none⟩ X.toList (fun j u hu => by rw [addr_at]; exact hX j u (by simpa using hu))
  rw [Array.length_toList, hm] at hl
  simp only [Array.toArray_toList] at hl
  have hrun : (loadVar ty ⟨g, i, none⟩).run Try.prog w = .ok (.agg X) w := by simp [loadVar, Sem.run_bind, run_isAgg hu hd, Go.Bul.run_sizeOf hi, hl]
  unfold Oper.quietAt execOp
  simp only [ho, hx, Instr.loadAt, Instr.sureAddr, Sem.run_bind, Sem.run_pure, Result.andThen_ok, hrun]
  exact ⟨rfl, rfl⟩
theorem wins_row {w : World} {g off n : Nat} {ws : List Win} (h : Wins w (some ⟨g, off, none⟩) n ws) (i : Nat) (hi : i < ws.length) : ∀ j u, (#[.int .i64 ws[i].1, .int .i64 ws[i].2] : Array Value)[j]? = some u → w.cell? ⟨g, off + i * 2 + j, none⟩ = some u := fun j u hu => by
  match j, hu with
  | 0, hu => simp at hu; subst hu; exact h.c0 i hi
  | 1, hu => simp at hu; subst hu; exact h.c1 i hi
  | j + 2, hu => simp at hu
set_option maxRecDepth 20000 in
set_option maxHeartbeats 4000000 in
theorem weq_any {w : World} {A B : Option Addr} {n m c d : Nat} {xs ys : List Win} (h1 : Wins w A n xs) (h2 : Wins w B m ys) (hn : n ≤ 1000000000) (hm : m ≤ 1000000000) :
    Calls Try.prog 57 #[.slice A n c, .slice B m d] w fun e w' => e = .returned (.bool (allEq eqW xs ys)) ∧ Below w.heap.size w w' := by
  have hM := Mem.start [] w
  have hx := h1.len
  have hy := h2.len
  have H1 := Lib.hid h1
  have H2 := Lib.hid h2
  by_cases hl : n = m
  · subst hl
    have HX := Lib.hid hx
    have HY := Lib.hid hy
    have HR0 : Hid (allEq eqW xs ys = allEq eqW (xs.drop 0) (ys.drop 0)) := Lib.hid rfl
    obtain ⟨R, hR⟩ : ∃ R, allEq eqW xs ys = R := ⟨_, rfl⟩
    rw [hR] at HR0 ⊢
    clear h1 h2 hx hy hR hm
    go_enter Try.func57, Try.ntmps57
    go_wp2_with fail
    go_loopw [13] (fun i wr => ∃ k : Nat, k ≤ n ∧ i = .int .i64 (k : Nat) ∧ Hid (R = allEq eqW (xs.drop k) (ys.drop k)) ∧ Mem [] w [] [] wr) (fun i _ => n - (intOf i).toNat)
    case atStart => exact ⟨0, by omega, rfl, HR0, hM⟩
    case round =>
      clear hM HR0
      obtain ⟨k, hk, rfl, HR, hM⟩ := hrel
      by_cases hlt : k < n
      · have k1 : k < xs.length := by have := HX.out; omega
        have k2 : k < ys.length := by have := HY.out; omega
        have hst := allEq_step (f := eqW) k1 k2
        obtain ⟨g, off, rfl, hgl, _⟩ := H1.out.2 (by omega)
        obtain ⟨g', off', rfl, hgl', _⟩ := H2.out.2 (by omega)
        have q0 : (0 : Int) ≤ (k : Int) := Int.natCast_nonneg _
        have q1 : (k : Int) < (n : Int) := by omega
        have C1 := Lib.hid (fun w' (hb : Below w.heap.size w w') => wins_row (H1.out.keep hb) k k1)
        have C2 := Lib.hid (fun w' (hb : Below w.heap.size w w') => wins_row (H2.out.keep hb) k k2)
        obtain ⟨⟨a, b⟩, ha⟩ : ∃ x, xs[k] = x := ⟨_, rfl⟩
        obtain ⟨⟨a', b'⟩, hb'⟩ : ∃ x, ys[k] = x := ⟨_, rfl⟩
        rw [ha] at C1 hst
        rw [hb'] at C2 hst
        have hR2 : R = (eqW (a, b) (a', b') && allEq eqW (xs.drop (k + 1)) (ys.drop (k + 1))) := HR.out.trans hst
        simp only [eqW] at hR2
        clear ha hb' hst HR k1 k2
        by_cases e1 : a = a'
        · by_cases e2 : b = b'
          · subst e1 e2
            have HR2 : Hid (R = allEq eqW (xs.drop (k + 1)) (ys.drop (k + 1))) := Lib.hid (by rw [hR2]; simp)
            clear hR2
            go_wp2_with fail
            refine Go.Bul.wp_region_class (Mem _ w _ _) (by kernel_rfl) (by kernel_rfl) hM.drew ?_
            repeat ((with_reducible refine wpQuiet_step (fun K hK => ?_)); (first | ((first | ((with_reducible refine quiet_some ?_ ?_); (· rfl)) | ((with_reducible refine quiet_wanted ?_ ?_); (· rfl))); apply Exists.intro; refine ⟨fun w' hM' => ?_, ?_⟩; (· first | (go_simp; rfl) | exact qc hM' | first | exact qrow (C1.out _ hM'.below) | exact qrow (C2.out _ hM'.below) | exact ql hM' | exact qp hM')) | ((with_reducible refine quiet_unwanted ?_ ?_); (· rfl))); go_simp; (with_reducible refine hK _ ?_); clear hK K)
            refine wpQuiet_nil ?_
            intro wx hM
            go_wp2_with fail
            exact ⟨⟨k + 1, by omega, by go_num, HR2, hM⟩, by simp [intOf]; omega⟩
          · subst e1
            have HR2 := Lib.hid (show R = false by rw [hR2, decide_eq_false e2]; simp)
            have t2 : (b == b') = false := by simpa using e2
            clear hR2 e2
            go_wp2_with fail
            refine Go.Bul.wp_region_class (Mem _ w _ _) (by kernel_rfl) (by kernel_rfl) hM.drew ?_
            repeat ((with_reducible refine wpQuiet_step (fun K hK => ?_)); (first | ((first | ((with_reducible refine quiet_some ?_ ?_); (· rfl)) | ((with_reducible refine quiet_wanted ?_ ?_); (· rfl))); apply Exists.intro; refine ⟨fun w' hM' => ?_, ?_⟩; (· first | (go_simp; rfl) | exact qc hM' | first | exact qrow (C1.out _ hM'.below) | exact qrow (C2.out _ hM'.below) | exact ql hM' | exact qp hM')) | ((with_reducible refine quiet_unwanted ?_ ?_); (· rfl))); go_simp; (with_reducible refine hK _ ?_); clear hK K)
            refine wpQuiet_nil ?_
            intro wx hM
            go_wp2_with fail
            go_ret
            exact ⟨ret_b HR2.out.symm, hM.below⟩
        · have HR2 := Lib.hid (show R = false by rw [hR2, decide_eq_false e1]; simp)
          have t1 : (a == a') = false := by simpa using e1
          clear hR2 e1
          go_wp2_with fail
          refine Go.Bul.wp_region_class (Mem _ w _ _) (by kernel_rfl) (by kernel_rfl) hM.drew ?_
          repeat ((with_reducible refine wpQuiet_step (fun K hK => ?_)); (first | ((first | ((with_reducible refine quiet_some ?_ ?_); (· rfl)) | ((with_reducible refine quiet_wanted ?_ ?_); (· rfl))); apply Exists.intro; refine ⟨fun w' hM' => ?_, ?_⟩; (· first | (go_simp; rfl) | exact qc hM' | first | exact qrow (C1.out _ hM'.below) | exact qrow (C2.out _ hM'.below) | exact ql hM' | exact qp hM')) | ((with_reducible refine quiet_unwanted ?_ ?_); (· rfl))); go_simp; (with_reducible refine hK _ ?_); clear hK K)
          refine wpQuiet_nil ?_
          intro wx hM
          go_wp2_with fail
          go_ret
          exact ⟨ret_b HR2.out.symm, hM.below⟩
      · obtain rfl : k = n := by omega
        have HR2 := Lib.hid (show R = true by rw [HR.out, HX.out]; exact allEq_end (by rw [← HX.out, ← HY.out]))
        clear HR
        go_wp2_with fail
        go_ret
        exact ⟨ret_b HR2.out.symm, hM.below⟩
  · have e : allEq eqW xs ys = false := allEq_len (by omega)
    rw [e]
    have t1 : ((n : Int) != (m : Int)) = true := by simp; omega
    have t2 : (n != m) = true := by simpa using hl
    have t3 : (n == m) = false := by simpa using hl
    clear h1 h2 hx hy e H1 H2
    go_enter Try.func57, Try.ntmps57
    go_wp2_with fail
    go_ret
    exact ⟨rfl, hM.below⟩
end Go.Proofs.Ytenflgbaibjeoaa
