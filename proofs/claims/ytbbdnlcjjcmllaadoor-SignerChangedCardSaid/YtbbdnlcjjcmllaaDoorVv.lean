/- Contracts of Public of a secret key, bytes of a public key, Of. Rows of [16]byte. -/
import Derived.Test.YtbbdnlcjjcmllaaDoorVu
import Derived.Test.YtbbdnlcjjcmllaaDoorXr
namespace Go.Proofs.YtbbdnlcjjcmllaaDoor
open Go Go.RowKit Go.Bul Go.Thg Go.Lin
theorem chk_two {h : Nat} (hh : h ≤ 8) : chkE (2 ^ h) = 0 := (chkE_pow (by omega) rfl).1
/-- The root of a key. -/
def rtN (s : Sd) (h : Nat) : Nd := rootN (lvsN s (2 ^ h))
set_option maxRecDepth 20000 in
set_option maxHeartbeats 1000000 in
theorem spub_yes (s : Sd) (h : Nat) (w : World) (h1 : 1 ≤ h) (hh : h ≤ 8) (hT : Tab w) :
    Calls Tryd.prog 7 #[.agg (secC s (h : Nat))] w fun e w' => e = .returned (.tuple #[.agg (pubC (h : Nat) (rtN s h)), .int .i64 0]) ∧ Below w.heap.size w w' := by
  have hM := Mem.start [] w
  have HS := Lib.hid (secC_size s (h : Nat))
  have HH := Lib.hid (secC_h s (h : Nat))
  have HC := Lib.hid (fun w => scheck_any s (h : Nat) w)
  rw [show hE (h : Nat) = 0 by unfold hE; rw [if_pos (by omega)]] at HC
  have HL := Lib.hid (fun w' (hb : Below w.heap.size w w') => leaves_any s h w' hh (hT.keep hb))
  have hp : 2 ^ h ≤ 2 ^ 8 := Nat.pow_le_pow_right (by decide) hh
  have HP := Lib.hid (fun A c w' (hr : NIn w' A (2 ^ h) (lvsN s (2 ^ h))) (hb : Below w.heap.size w w') => pubof_any (h : Nat) A (2 ^ h) c (lvsN s (2 ^ h)) w' hr (by omega) (chk_two hh) (hT.keep hb))
  unfold rtN
  generalize rootN (lvsN s (2 ^ h)) = Z at HP ⊢
  generalize lvsN s (2 ^ h) = LV at HP HL
  generalize 2 ^ h = N at HP HL
  generalize secC s (h : Nat) = X at HS HH HC HL ⊢
  generalize (h : Int) = z at HH HP ⊢
  clear hh h1 hT hp
  go_enter Tryd.func7, Tryd.ntmps7
  go_upto_region 4 with (first | ((with_reducible refine at_box ?_); refine slb hM ?_ (hty := row_sec) (hn := HS.out); clear hM; intro g1 w1 hM) | ((with_reducible refine (HC.out _).mono ?_); rintro e w1 ⟨rfl, hb⟩; replace hM := hM.step hb; clear hb) | ((first | with_reducible refine at_load ?_ | ((with_reducible refine at_load_g ?_ ?_); (· rfl))); first | refine sll hM ?_ | refine slc hM ?_ | refine slp hM ?_) | ((with_reducible refine at_store ?_); first | (refine slw hM ?_; clear hM; intro wx hM) | (refine sls hM ?_; clear hM; intro wx hM) | (refine slt hM ?_; clear hM; intro wx hM)) | ((with_reducible refine at_alloc ?_); refine slz hM ?_; clear hM; intro gx wx hM) | ((with_reducible refine at_box ?_); refine slb hM ?_; clear hM; intro gx wx hM))
  obtain ⟨g1, hg1⟩ := (hM.subL (List.sublist_cons_self _ _)).name1
  subst hg1
  refine wp_region_allHM hM (HeldM [⟨g1, 28, 33, X⟩]) (by kernel_rfl) ?_
  clear hM
  intro wd hM
  have hS := HeldM.of (hM.subL (L' := [⟨g1, 28, 33, X⟩]) (List.sublist_cons_self _ _))
  refine wpAllH_takes [0, 1, 2] (by kernel_rfl) (fun _ _ _ _ _ h => h) hS (by kernel_rfl) ?_
  simp only [pickOps, List.filterMap_cons, List.filterMap_nil, List.getElem?_cons_zero, List.getElem?_cons_succ]
  repeat ((with_reducible apply wpHeld_step); (· rfl); (· (intro w hSw; first | (go_simp; rfl) | ((obtain ⟨_, _, _, hM'⟩ := hSw; first | exact yields_load (C := fun _ => True) (sqc hM' (hv := HH.out)) rfl | exact yields_load (C := fun _ => True) (sql hM' (hty := row_sec)) rfl)))); intro K hK; go_simp; (with_reducible refine hK _ ?_); clear hK K)
  refine wpHeld_nil ?_
  refine wpAllH_one 3 rfl (by kernel_rfl) ?_
  go_wp2_with fail
  refine (HL.out _ hM.below).mono ?_
  rintro e w1 ⟨A, c, rfl, hb⟩
  replace hM := hM.newThing hb
  clear hb hS
  have hS := HeldM.of (hM.subL (L' := [⟨g1, 28, 33, X⟩]) (List.sublist_cons_self _ _))
  go_wp2_with fail
  refine then_normal ⟨hS, ?_⟩
  refine wpAllH_one 4 rfl (by kernel_rfl) ?_
  go_wp2_with fail
  refine (HP.out _ _ _ (ndT_in (hM.thing _ (List.Mem.head _))) hM.below).mono ?_
  rintro e w1 ⟨rfl, hb⟩
  replace hM := hM.step hb
  clear hb hS
  have hS := HeldM.of (hM.subL (L' := [⟨g1, 28, 33, X⟩]) (List.sublist_cons_self _ _))
  go_wp2_with fail
  refine then_normal ⟨hS, ?_⟩
  refine wpAllH_takes [5, 6] (by kernel_rfl) (fun _ _ _ _ _ h => h) hS (by kernel_rfl) ?_
  simp only [pickOps, List.filterMap_cons, List.filterMap_nil, List.getElem?_cons_zero, List.getElem?_cons_succ]
  repeat ((with_reducible apply wpHeld_step); (· rfl); (· (intro w hSw; first | (go_simp; rfl) | (fail))); intro K hK; go_simp; (with_reducible refine hK _ ?_); clear hK K)
  refine wpHeld_nil ?_
  refine wpAllH_one 7 rfl (by kernel_rfl) ?_
  refine slw hM ?_ (hs := pubC_size _ _) (h1 := pubC_one _ _) (hty := row_pub)
  clear hM hS
  intro wy hM
  have hS := HeldM.of (hM.subL (L' := [⟨g1, 28, 33, X⟩]) (List.sublist_cons_self _ _))
  refine wpList_then ⟨hS, ?_⟩
  refine wpAllH_takes [8] (by kernel_rfl) (fun _ _ _ _ _ h => h) hS (by kernel_rfl) ?_
  simp only [pickOps, List.filterMap_cons, List.filterMap_nil, List.getElem?_cons_zero, List.getElem?_cons_succ]
  repeat ((with_reducible apply wpHeld_step); (· rfl); (· (intro w hSw; first | (go_simp; rfl) | (fail))); intro K hK; go_simp; (with_reducible refine hK _ ?_); clear hK K)
  refine wpHeld_nil ?_
  refine wpAllH_done (by kernel_rfl) ?_
  go_wp2_with fail
  exact bodyPost_ret (results_mem_cell_tmp hM rfl (by rfl) (by repeat (first | exact List.Mem.head _ | apply List.Mem.tail)) row_pub (by rfl)) rfl ⟨rfl, hM.below⟩
end Go.Proofs.YtbbdnlcjjcmllaaDoor
namespace Go.Proofs.YtbbdnlcjjcmllaaDoor
open Go Go.RowKit Go.Bul Go.Thg Go.Lin
theorem info_16 : (Tryd.prog.info? 23).map (fun i => (i.zero, i.size, i.bytes)) = some (some (.agg (ndC nd0)), 16, 16) := by kernel_rfl
def p16T (v : Value) (l : List Nd) : Thing := rowT 23 16 v l.length (ndCells l)
theorem p16T_form {v : Value} {l : List Nd} {w : World} (h : (p16T v l).P w) : ∃ A c, v = .slice A l.length c ∧ l.length ≤ c ∧ NIn w A l.length l := by
  obtain ⟨A, c, h1, h2, _⟩ := OffRow.form h
  subst h1
  exact ⟨A, c, rfl, h2, OffRow.reads h⟩
theorem p16T_in {A : Option Addr} {n c : Nat} {l : List Nd} {w : World} (h : (p16T (.slice A n c) l).P w) : NIn w A n l := by
  obtain ⟨A', c', he, _, hn⟩ := p16T_form h
  have e1 : A = A' := by injection he
  have e2 : n = l.length := by injection he
  subst e1 e2
  exact hn
theorem hbecomes_zero {G : List Nat} {w w' : World} (A : Option Addr) (h : KeptBut G w w') : Becomes G w (p16T (.slice A 0 0) []) w' :=
  ⟨OffRow.empty w' _ _ A, h, fun g hg => by rw [show (p16T (.slice A 0 0) []).fp = [] from sFp_zero] at hg; cases hg⟩
set_option maxRecDepth 20000 in
theorem run_lb16 (y0 : Nd) (w : World) : (Instr.buildSlice 35 1 #[(0, .agg (ndC y0))]).run Tryd.prog w = .ok (.slice (some ⟨w.heap.size, 0, none⟩) 1 1) (w.alloc (.cells (ndC y0) 23)) := by
  have h := info_16
  cases hq : Tryd.prog.info? 23 with
  | none => rw [hq] at h; simp at h
  | some i =>
    rw [hq] at h
    simp only [Option.map_some, Option.some.injEq, Prod.mk.injEq] at h
    refine run_buildSlice w _ _ 1 _ _ i _ Tryd.underlying35 hq h.1 (by rw [h.2.1]; decide) (by rw [h.2.1]; decide) ?_
    rw [h.2.1]
    have hz : Array.map (fun x => (Value.agg (ndC nd0)).cells[x % (Value.agg (ndC nd0)).cells.size]!) (Array.range (1 * 16)) = #[Value.int IntKind.u8 0, Value.int IntKind.u8 0, Value.int IntKind.u8 0, Value.int IntKind.u8 0, Value.int IntKind.u8 0, Value.int IntKind.u8 0, Value.int IntKind.u8 0, Value.int IntKind.u8 0, Value.int IntKind.u8 0, Value.int IntKind.u8 0, Value.int IntKind.u8 0, Value.int IntKind.u8 0, Value.int IntKind.u8 0, Value.int IntKind.u8 0, Value.int IntKind.u8 0, Value.int IntKind.u8 0] := by kernel_rfl
    rw [hz]
    obtain ⟨l0, hl0, _⟩ := y0
    obtain ⟨p0_0, p0_1, p0_2, p0_3, p0_4, p0_5, p0_6, p0_7, p0_8, p0_9, p0_10, p0_11, p0_12, p0_13, p0_14, p0_15, rfl⟩ := list16 hl0
    simp [Instr.fill, Value.cells, ndC, cellsOf, vals]
section
variable {w w0 : World} {G : List Nat} {L : List Ent} {R : List Thing} {ops : Array Oper} {rest : List Oper} {o : Oper} {a : Act} {Q : Exit → Act → World → Prop} {s x x0 : Operand} {v y : Value} {xs ys : List Nd} {m : Nat} {F : Thing → List Thing}
theorem lb16 {y0 : Nd} (hM : Mem G w0 L R w) (h : ∀ g w', Mem G w0 (⟨g, 23, 16, (ndC y0)⟩ :: L) R w' → wpList Tryd.prog ops Q rest (a.put o.dst (.slice (some ⟨g, 0, none⟩) 1 1)) w')
    (hgd : o.guard = none := by rfl) (ho : o.op = .buildSlice 35 1 #[(0, x0)] := by rfl) (hx0 : a.eval x0 = .agg (ndC y0) := by rfl) : wpList Tryd.prog ops Q (o :: rest) a w := by
  refine wpList_plain hgd fun K hK => ?_
  unfold Oper.wp execOp
  simp only [ho, List.map_toArray, List.map_cons, List.map_nil, hx0, Sem.run_bind, run_lb16, Result.andThen_ok]
  exact hK _ _ (h _ _ (hM.alloc _ _ (by first | rfl | exact ndC_size _ | exact ndC2_size _ _)))
/-- append nodes onto a row of the reference's nodes. -/
theorem la16 (hs : Src Tryd.prog 16 35 y m (ndCells ys) w) (hM : Mem G w0 L R w) (h63 : xs.length + ys.length ≤ 1000000000)
    (h : ∀ A' N c' w', Hid (N = (xs ++ ys).length) → Mem G w0 L (F (p16T (.slice A' N c') (xs ++ ys))) w' → wpList Tryd.prog ops Q rest (a.put o.dst (.slice A' N c')) w')
    (hgd : o.guard = none := by rfl) (ho : o.op = .call { callee := .builtin .append, args := #[s, x], argTypes := #[35, 35] } := by rfl) (hv : a.eval s = v := by rfl) (hR : UpdR (p16T v xs) R F := by repeat (first | exact UpdR.head _ _ | apply UpdR.tail)) (hy : a.eval x = y := by rfl) : wpList Tryd.prog ops Q (o :: rest) a w := by
  have hl : m = ys.length := by have := hs.newsLen; rw [ndCells_length] at this; omega
  subst hl
  refine wpList_append_thing hM 35 _ 23 (.agg (ndC nd0)) 16 16 Tryd.underlying35 info_16 (by exact ndC_size _) hgd s x ho v hv xs.length (ndCells xs) F hR y hy _ _ hs h63 (by decide) fun A' N c' w' hN hm => ?_
  refine h A' N c' w' (Lib.hid (by simp [hN])) ?_
  have e : p16T (.slice A' N c') (xs ++ ys) = rowT 23 16 (.slice A' N c') N (ndCells xs ++ ndCells ys) := by
    unfold p16T
    rw [hN, ndCells_app]
    simp
  rw [e]
  exact hm
end
theorem src_16 {w w0 : World} {G : List Nat} {L : List Ent} {R : List Thing} {g : Nat} {x : Nd} (hM : Mem G w0 L R w) (hL : ⟨g, 23, 16, ndC x⟩ ∈ L) : Src Tryd.prog 16 35 (.slice (some ⟨g, 0, none⟩) 1 1) 1 (ndCells [x]) w :=
  (nin_1 hM hL : Reads w 16 _ 1 (ndCells [x])).src (c := 1) Tryd.underlying35 (ndCells_one _)
end Go.Proofs.YtbbdnlcjjcmllaaDoor
