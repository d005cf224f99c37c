/- Contract of the reference's minute. -/
import Derived.Test.YtenflgbaibjeoaaMnd
import Derived.Deep.CutRange
import Derived.Deep.CutBlock
namespace Go.Lin
open Go
theorem bstr_get (l : List Nat) (hb : Go.Bul.Bytes l) {j : Nat} (hj : j < l.length) (h : j < (Go.Bul.bstr l).size) : ((Go.Bul.bstr l)[j]'h).toNat = l[j] := by
  have h1 := hb l[j] (List.getElem_mem hj)
  show ((Go.Bul.bstr l).data[j]'_).toNat = _
  simp [Go.Bul.bstr]
  omega
theorem take_snoc {α : Type} (f : Nat → α) {l : List Nat} {j : Nat} (h : j < l.length) : (l.take (j + 1)).map f = (l.take j).map f ++ [f l[j]] := by
  rw [List.take_succ_eq_append_getElem h, List.map_append]
  rfl
/-- Within bounds. -/
structure RB (T : RL) : Prop where
  r1 : 1 ≤ T.r
  r2 : T.r ≤ 1048576
  d1 : 0 ≤ T.d
  d2 : T.d ≤ 1440
  ws : T.ws.length ≤ 1000
  n1 : 0 ≤ T.now
  n2 : T.now ≤ 10000000
  s1 : 0 ≤ T.ses
  s2 : T.ses ≤ 100000000
  w0 : T.w0.length ≤ 100000000
  w1 : T.w1.length ≤ 100000000
  y0 : T.y0.length ≤ 100000000
  y1 : T.y1.length ≤ 100000000
  a0 : T.a0.length ≤ 100000000
  a1 : T.a1.length ≤ 100000000
  v0 : Go.Bul.Bytes T.w0
  v1 : Go.Bul.Bytes T.w1
theorem min_cases (l : List Nat) {r : Int} (h : 1 ≤ r) : ∃ k : Nat, (if ((Go.Bul.bstr l).size : Int) < r then ((Go.Bul.bstr l).size : Int) else r) = (k : Int) ∧ k ≤ l.length ∧ l.take k = l.take r.toNat ∧ l.drop k = l.drop r.toNat := by
  rw [Go.Bul.bstr_size]
  by_cases hl : (l.length : Int) < r
  · refine ⟨l.length, by rw [if_pos hl], Nat.le_refl _, ?_, ?_⟩
    · rw [List.take_of_length_le (Nat.le_refl _), List.take_of_length_le (by omega)]
    · rw [List.drop_of_length_le (Nat.le_refl _), List.drop_of_length_le (by omega)]
  · exact ⟨r.toNat, by rw [if_neg hl]; omega, by omega, rfl, rfl⟩
theorem left_late {n t : Int} {b : Nat} {y : BW} (h : ¬ t ≤ n) : leftR n (y ++ [(b, t)]) = leftR n y ++ [(b, t)] := by simp [leftR, h]
theorem due_late {n t : Int} {b : Nat} {y : BW} (h : ¬ t ≤ n) : dueR n (y ++ [(b, t)]) = dueR n y := by simp [dueR, h]
theorem left_due {n t : Int} {b : Nat} {y : BW} (h : t ≤ n) : leftR n (y ++ [(b, t)]) = leftR n y := by simp [leftR, h]
theorem due_due {n t : Int} {b : Nat} {y : BW} (h : t ≤ n) : dueR n (y ++ [(b, t)]) = dueR n y ++ [b] := by simp [dueR, h]
theorem left_len (n : Int) (y : BW) : (leftR n y).length ≤ y.length := List.length_filter_le _ _
theorem due_len (n : Int) (y : BW) : (dueR n y).length ≤ y.length := by unfold dueR; rw [List.length_map]; exact List.length_filter_le _ _
/-- Within bounds, when the sides have sent. -/
structure RB2 (T : RL) : Prop where
  ws : T.ws.length ≤ 1000
  n1 : 0 ≤ T.now
  n2 : T.now ≤ 10000000
  s1 : 0 ≤ T.ses
  s2 : T.ses ≤ 100000000
  y0 : T.y0.length ≤ 200000000
  y1 : T.y1.length ≤ 200000000
  a0 : T.a0.length ≤ 100000000
  a1 : T.a1.length ≤ 100000000
theorem rb_sent {T : RL} (h : RB T) : RB2 (sentR T) := by
  have := h.w0
  have := h.w1
  have := h.y0
  have := h.y1
  unfold sentR
  split
  · exact ⟨h.ws, h.n1, h.n2, h.s1, h.s2, by simp [sendY]; omega, by simp [sendY]; omega, h.a0, h.a1⟩
  · exact ⟨h.ws, h.n1, h.n2, h.s1, h.s2, by omega, by omega, h.a0, h.a1⟩
end Go.Lin
namespace Go.Proofs.Ytenflgbaibjeoaa
abbrev zeroL : Array Go.Value := #[.int .i64 0, .int .i64 0, .int .i64 0, .slice none 0 0, .int .i64 0, .bool false, .int .i64 0, .string ⟨#[]⟩, .slice none 0 0, .string ⟨#[]⟩, .string ⟨#[]⟩, .slice none 0 0, .string ⟨#[]⟩]
open Go Go.RowKit Go.Bul Go.Thg Go.Lin
section
variable {w w0 : World} {G : List Nat} {L : List Ent} {R : List Thing} {ops : Array Oper} {rest : List Oper} {o : Oper} {a : Act} {Q : Exit → Act → World → Prop} {x : Operand} {b : Nat}
theorem run_uone (b : Int) (w : World) : (Instr.buildSlice 82 1 #[(0, .int .u8 b)]).run Try.prog w = .ok (.slice (some ⟨w.heap.size, 0, none⟩) 1 1) (w.alloc (.cells #[.int .u8 b] 5)) := by
  have h := info_u8
  cases hq : Try.prog.info? 5 with
  | none => rw [hq] at h; simp at h
  | some i =>
    rw [hq] at h
    simp only [Option.map_some, Option.some.injEq, Prod.mk.injEq] at h
    refine run_buildSlice w _ _ 1 _ _ i _ Try.underlying82 hq h.1 (by rw [h.2.1]; decide) (by rw [h.2.1]; decide) ?_
    rw [h.2.1]
    have hz : Array.map (fun x => (Value.int IntKind.u8 0).cells[x % (Value.int IntKind.u8 0).cells.size]!) (Array.range (1 * 1)) = #[Value.int IntKind.u8 0] := by kernel_rfl
    rw [hz]
    simp [Instr.fill, Value.cells]
/-- A slice of one byte, written out. -/
theorem lbU (hM : Mem G w0 L R w) (h : ∀ g w', Mem G w0 (⟨g, 5, 1, #[.int .u8 (b : Nat)]⟩ :: L) R w' → wpList Try.prog ops Q rest (a.put o.dst (.slice (some ⟨g, 0, none⟩) 1 1)) w')
    (hgd : o.guard = none := by rfl) (ho : o.op = .buildSlice 82 1 #[(0, x)] := by rfl) (hx : a.eval x = .int .u8 (b : Nat) := by rfl) : wpList Try.prog ops Q (o :: rest) a w := by
  refine wpList_plain hgd fun K hK => ?_
  have hr := run_uone (b : Int) w
  unfold Oper.wp execOp
  simp only [ho, List.map_toArray, List.map_cons, List.map_nil, hx, Sem.run_bind]
  rw [hr]
  simp only [Result.andThen_ok]
  exact hK _ _ (h _ _ (hM.alloc _ _ rfl))
theorem ureads_str {g : Nat} (hM : Mem G w0 L R w) (hL : ⟨g, 5, 1, #[.int .u8 (b : Nat)]⟩ ∈ L) : (convert 82 9 (.slice (some ⟨g, 0, none⟩) 1 1)).run Try.prog w = .ok (.string (bstr [b])) w := by
  have hB := hM.blk hL
  refine reads_str (bs := [b]) ⟨rfl, fun _ => ⟨g, 0, rfl, hB.lt, fun j u hu => (hB.cell _).trans ?_⟩⟩ 1
  rw [Nat.zero_add]
  simpa [vals] using hu
end
/-- A row that is new reads new blocks. -/
theorem byT_new {w w0 : World} {L : List Ent} {R : List Thing} {A : Option Addr} {n c : Nat} {y : BW} (hM : Mem [] w0 L R w) (h : byT (.slice A n c) y ∈ R) : ∀ g ∈ aFp A y.length, w0.heap.size ≤ g := by
  intro g hg
  have h' : OffRow w 110 2 (.slice A n c) y.length (bCells y) := hM.thing _ h
  obtain ⟨_, A', c', he, h2, h3, h4⟩ := h'
  have e1 : A = A' := by injection he
  have e2 : c = c' := by injection he
  subst e1 e2
  rcases Nat.eq_zero_or_pos y.length with h0 | h0
  · rw [h0, aFp_zero] at hg; cases hg
  · obtain ⟨g', off, cur, rfl, _⟩ := h4 (by omega)
    rw [aFp_pos h0] at hg
    have hf : g ∈ (byT (.slice (some ⟨g', off, none⟩) n c) y).fp := by
      show g ∈ sFp _
      rw [sFp_pos (by omega)]
      exact hg
    have := hM.own g (mem_foot.2 (.inr ⟨_, h, hf⟩))
    simpa using this
theorem RSub.new {n : Nat} {T T' : RL} {v : RV} {B C : Option Addr} {c0 c1 : Nat} (e : T'.ws = T.ws) (h0 : ∀ g ∈ aFp B T'.y0.length, n ≤ g) (h1 : ∀ g ∈ aFp C T'.y1.length, n ≤ g) : RSub n T v T' ⟨v.A, v.c, B, c0, C, c1⟩ := fun g hg => by
  rw [mem_rFp, e] at hg
  rcases hg with hg | hg | hg
  · exact .inl (mem_rFp.2 (.inl hg))
  · exact .inr (h0 g hg)
  · exact .inr (h1 g hg)
set_option maxRecDepth 20000 in
set_option maxHeartbeats 40000000 in
theorem minute_any (T : RL) (v : RV) (w : World) (hR : RIn w T v) (hB : RB T) (hn : T.now < 10000000) :
    Calls Try.prog 56 #[.agg (refCs T v)] w fun e w' => ∃ v', e = .returned (.agg (refCs (minuteR T) v')) ∧ Below w.heap.size w w' ∧ RIn w' (minuteR T) v' ∧ RSub w.heap.size T v (minuteR T) v' := by
  obtain ⟨M, hMi⟩ : ∃ M, minuteR T = M := ⟨_, rfl⟩
  rw [hMi]
  have hM := Mem.start [] w
  have HR := Lib.hid (fun w' (hb : Below w.heap.size w w') => hR.keep hb)
  have HB := Lib.hid hB
  have HMI := Lib.hid hMi
  clear hMi
  obtain ⟨r, d, p, ws, now, up, ses, w0, y0, a0, w1, y1, a1⟩ := T
  obtain ⟨A, c, Y0, c0, Y1, c1⟩ := v
  obtain ⟨b1, b2, b3, b4, b5, b6, b7, b8, b9, b10, b11, b12, b13, b14, b15, b16, b17⟩ := hB
  simp only at b1 b2 b3 b4 b5 b6 b7 b8 b9 b10 b11 b12 b13 b14 b15 b16 b17 hn
  have HY0 : Hid (∀ w', Below w.heap.size w w' → Reads w' 2 Y0 y0.length (bCells y0)) := Lib.hid fun w' hb => (HR.out w' hb).y0
  have HY1 : Hid (∀ w', Below w.heap.size w w' → Reads w' 2 Y1 y1.length (bCells y1)) := Lib.hid fun w' hb => (HR.out w' hb).y1
  have HWS : Hid (∀ w', Below w.heap.size w w' → Wins w' A ws.length ws) := Lib.hid fun w' hb => (HR.out w' hb).ws
  have hl0 : ([] : BW).length + y0.length ≤ 1000000000 := by simp; omega
  have hl1 : ([] : BW).length + y1.length ≤ 1000000000 := by simp; omega
  clear hR
  go_enter Try.func56, Try.ntmps56
  go_upto_if 12 with (first | ((first | with_reducible refine at_load ?_ | ((with_reducible refine at_load_g ?_ ?_); (· rfl))); first | refine lc hM ?_ | refine ll hM ?_ | refine lp hM ?_) | ((with_reducible refine at_store ?_); first | (refine ls hM ?_; clear hM; intro wx hM) | (refine lw hM ?_; clear hM; intro wx hM) | (refine lt hM ?_; clear hM; intro wx hM)) | ((with_reducible refine at_alloc ?_); refine lz hM ?_; clear hM; intro gx wx hM) | ((with_reducible refine at_box ?_); refine lb hM ?_; clear hM; intro gx wx hM))
  go_simp
  obtain ⟨g2, hg2⟩ := hM.name1
  obtain ⟨g1, hg1⟩ := (hM.subL (List.sublist_cons_self _ _)).name1
  subst hg2 hg1
  go_cut [3, 4, 5, 6] from 11 (fun _ _ _ _ wc => ∃ (Y0' : Option Addr) (c0' : Nat) (Y1' : Option Addr) (c1' : Nat) (R0 : List Thing), Hid (∀ w' L R', Mem [] w L (R' ++ R0) w' → RIn w' (sentR ⟨r, d, p, ws, now, up, ses, w0, y0, a0, w1, y1, a1⟩) ⟨A, c, Y0', c0', Y1', c1'⟩) ∧ Mem [] w [⟨g2, 66, 13, zeroL⟩, ⟨g1, 66, 13, refCs (sentR ⟨r, d, p, ws, now, up, ses, w0, y0, a0, w1, y1, a1⟩) ⟨A, c, Y0', c0', Y1', c1'⟩⟩] R0 wc)
  case first =>
    cases up with
    | true =>
      obtain ⟨at', hat⟩ : ∃ at', now + 1 + d = at' := ⟨_, rfl⟩
      have HAT := Lib.hid hat
      have wq1 : IntKind.i64.wrap (now + 1) = now + 1 := IntWalk.i64_in _ ⟨by omega, by omega⟩
      have wq2 : IntKind.i64.wrap at' = at' := IntWalk.i64_in _ ⟨by omega, by omega⟩
      clear HB HR HMI
      go_wp2_with (first | ((with_reducible refine at_store ?_); refine ls hM ?_ (hy := by (go_simp; rfl)); clear hM; intro wx hM) | ((first | with_reducible refine at_load ?_ | ((with_reducible refine at_load_g ?_ ?_); (· rfl))); first | refine lc hM ?_ | refine ll hM ?_ | refine lp hM ?_) | ((with_reducible refine at_store ?_); first | (refine ls hM ?_; clear hM; intro wx hM) | (refine lw hM ?_; clear hM; intro wx hM) | (refine lt hM ?_; clear hM; intro wx hM)) | ((with_reducible refine at_alloc ?_); refine lz hM ?_; clear hM; intro gx wx hM) | ((with_reducible refine at_box ?_); refine lb hM ?_; clear hM; intro gx wx hM))
      refine wp_loop_rounds 3 ?_
      rw [rounds_succ]
      obtain ⟨k, hmk, hkl, e1, e2⟩ := min_cases w0 b1
      go_wp2_with (first | ((first | with_reducible refine at_load ?_ | ((with_reducible refine at_load_g ?_ ?_); (· rfl))); first | refine lc hM ?_ | refine ll hM ?_ | refine lp hM ?_) | ((with_reducible refine at_store ?_); first | (refine ls hM ?_; clear hM; intro wx hM) | (refine lw hM ?_; clear hM; intro wx hM) | (refine lt hM ?_; clear hM; intro wx hM)) | ((with_reducible refine at_alloc ?_); refine lz hM ?_; clear hM; intro gx wx hM) | ((with_reducible refine at_box ?_); refine lb hM ?_; clear hM; intro gx wx hM))
      refine Go.Bul.wp_region_class (Mem _ w _ _) (by kernel_rfl) (by kernel_rfl) hM.drew ?_
      repeat ((with_reducible refine wpQuiet_step (fun K hK => ?_)); (first | ((first | ((with_reducible refine quiet_some ?_ ?_); (· rfl)) | ((with_reducible refine quiet_wanted ?_ ?_); (· rfl))); apply Exists.intro; refine ⟨fun w' hM' => ?_, ?_⟩; (· first | (go_simp; rfl) | exact qc hM' | fail | exact ql hM' | exact qp hM')) | ((with_reducible refine quiet_unwanted ?_ ?_); (· rfl))); go_simp; (with_reducible refine hK _ ?_); clear hK K)
      refine wpQuiet_nil ?_
      intro wx hM
      go_wp2_with (first | (refine lbBn hM ?_; clear hM; intro gw ww hM) | ((with_reducible refine at_append ?_); refine laB (b_src (HY0.out _ hM.below)) hM hl0 ?_; clear hM; intro Aq Nq cq wx hN hM) | ((with_reducible refine at_store ?_); refine ls hM ?_ (hy := by (go_simp; rfl)); clear hM; intro wx hM) | ((first | with_reducible refine at_load ?_ | ((with_reducible refine at_load_g ?_ ?_); (· rfl))); first | refine lc hM ?_ | refine ll hM ?_ | refine lp hM ?_) | ((with_reducible refine at_store ?_); first | (refine ls hM ?_; clear hM; intro wx hM) | (refine lw hM ?_; clear hM; intro wx hM) | (refine lt hM ?_; clear hM; intro wx hM)) | ((with_reducible refine at_alloc ?_); refine lz hM ?_; clear hM; intro gx wx hM) | ((with_reducible refine at_box ?_); refine lb hM ?_; clear hM; intro gx wx hM))
      obtain rfl : Nq = y0.length := by rw [hN.out]; simp
      have M0 := Lib.hid hM
      clear hM hN
      go_loopw [6, 5] (fun i u wr => ∃ (j : Nat) (Y : BW) (A' : Option Addr) (c' : Nat), j ≤ k ∧ i = .int .i64 (j : Nat) ∧ u = .slice A' Y.length c' ∧ Hid (Y = y0 ++ (w0.take j).map fun b => (b, at')) ∧ Mem [] w [⟨g2, 66, 13, zeroL⟩, ⟨g1, 66, 13, refCs ⟨r, d, p, ws, now, true, ses, w0, y0, a0, w1, y1, a1⟩ ⟨A, c, Y0, c0, Y1, c1⟩⟩] [byT (.slice A' Y.length c') Y] wr) (fun i _ _ => k - (intOf i).toNat)
      case atStart => exact ⟨0, y0, Aq, cq, by omega, rfl, rfl, Lib.hid (by simp), by simpa using M0.out⟩
      case round =>
        obtain ⟨j, Y, A', c', hj, rfl, rfl, HY, hM⟩ := hrel
        by_cases hlt : j < k
        · have q0 : (0 : Int) ≤ (j : Int) := Int.natCast_nonneg _
          have q1 : (j : Int) < (k : Int) := by omega
          have q2 : j < (bstr w0).size := by rw [bstr_size]; omega
          have q3 : (j : Int) < ((bstr w0).size : Int) := by omega
          obtain ⟨bj, hbj'⟩ : ∃ bj, w0[j] = bj := ⟨_, rfl⟩
          have hbj : ((bstr w0)[j]'q2).toNat = bj := by rw [← hbj']; exact bstr_get w0 b16 (by omega) q2
          have HY2 : Hid (Y ++ [(bj, at')] = y0 ++ (w0.take (j + 1)).map fun b => (b, at')) := Lib.hid (by rw [HY.out, ← hbj', take_snoc _ (show j < w0.length by omega), List.append_assoc])
          have hYl : Y.length + [(bj, at')].length ≤ 1000000000 := by rw [HY.out]; simp; omega
          clear hbj'
          go_wp2_with (first | ((with_reducible refine at_store ?_); refine ls hM ?_ (hy := by (go_simp; rfl)); clear hM; intro wx hM) | ((first | with_reducible refine at_load ?_ | ((with_reducible refine at_load_g ?_ ?_); (· rfl))); first | refine lc hM ?_ | refine ll hM ?_ | refine lp hM ?_) | ((with_reducible refine at_store ?_); first | (refine ls hM ?_; clear hM; intro wx hM) | (refine lw hM ?_; clear hM; intro wx hM) | (refine lt hM ?_; clear hM; intro wx hM)) | ((with_reducible refine at_alloc ?_); refine lz hM ?_; clear hM; intro gx wx hM) | ((with_reducible refine at_box ?_); refine lb hM ?_; clear hM; intro gx wx hM))
          refine wp_region_allB hM 17 (by kernel_rfl) ?_
          clear hM
          intro wd hM
          have HM0 := Lib.hid hM
          have hS := Below.refl wd.heap.size wd
          refine wpAllT_takes [0, 1, 2, 3, 4, 5, 6, 7, 8, 9, 10, 11, 12, 13, 14, 15] (by kernel_rfl) (fun _ _ _ _ _ h => h) hS (by kernel_rfl) ?_
          simp only [pickOps, List.filterMap_cons, List.filterMap_nil, List.getElem?_cons_zero, List.getElem?_cons_succ]
          repeat ((with_reducible apply wpHeld_step); (· rfl); (· (intro wq hSw; first | (go_simp; rfl) | (have hM' := HM0.out.step hSw; first | exact yields_load (C := fun _ => True) (qc hM') rfl | exact yields_load (C := fun _ => True) (ql hM') rfl | exact yields_load (C := fun _ => True) (qp hM') rfl | fail))); intro K hK; go_simp; (with_reducible refine hK _ ?_); clear hK K)
          refine wpHeld_nil ?_
          refine wpAllT_one 16 rfl (by kernel_rfl) ?_
          refine lbB (b := (bj : Nat)) (t := at') (Mem.start [] wd) ?_
          intro gw ww hF
          refine wpList_then ⟨.inr hF.below, ?_⟩
          replace hM := hM.frame hF
          clear hF hS HM0
          go_simp
          refine wpAllT_one 17 rfl (by kernel_rfl) ?_
          refine laB (b_src (c := 1) (breads_one hM (List.Mem.head _))) hM hYl ?_
          clear hM
          intro A2 N2 c2 wx hN hM
          refine wpList_then ⟨.inl (by kernel_rfl), wpAllT_drop (by kernel_rfl) ?_⟩
          go_simp
          refine wpAll_seq [18] (by kernel_rfl) ?_
          simp only [pickOps, List.filterMap_cons, List.filterMap_nil, List.getElem?_cons_zero, List.getElem?_cons_succ]
          repeat (first | ((fail); go_simp) | ((with_reducible apply wpList_pure); (· rfl); (· (go_simp; rfl)); go_simp))
          refine wpList_end ?_
          go_wp2_with (first | ((first | with_reducible refine at_load ?_ | ((with_reducible refine at_load_g ?_ ?_); (· rfl))); first | refine lc hM ?_ | refine ll hM ?_ | refine lp hM ?_) | ((with_reducible refine at_store ?_); first | (refine ls hM ?_; clear hM; intro wx hM) | (refine lw hM ?_; clear hM; intro wx hM) | (refine lt hM ?_; clear hM; intro wx hM)) | ((with_reducible refine at_alloc ?_); refine lz hM ?_; clear hM; intro gx wx hM) | ((with_reducible refine at_box ?_); refine lb hM ?_; clear hM; intro gx wx hM))
          obtain rfl : N2 = (Y ++ [(bj, at')]).length := hN.out
          exact ⟨⟨j + 1, Y ++ [(bj, at')], A2, c2, by omega, by go_num, rfl, HY2, hM.subL (List.sublist_cons_self _ _)⟩, by simp [intOf]; omega⟩
        · obtain rfl : j = k := by omega
          obtain ⟨D0, hD0⟩ : ∃ D, w0.drop j = D := ⟨_, rfl⟩
          have HDS0 : (bstr w0).extract j (bstr w0).size = bstr D0 := by rw [← hD0]; exact bstr_drop w0
          have HDD0 := Lib.hid (show D0 = sendW r w0 by rw [← hD0, e2]; rfl)
          have HVV0 := Lib.hid (show Y = sendY r at' w0 y0 by rw [HY.out, e1]; rfl)
          have q0 : (0 : Int) ≤ (j : Int) := Int.natCast_nonneg _
          have q2 : j ≤ (bstr w0).size := by rw [bstr_size]; omega
          have q3 : (j : Int) ≤ ((bstr w0).size : Int) := by omega
          clear e1 e2 hD0 HY hmk
          go_wp2_with (first | ((with_reducible refine at_store ?_); refine ls hM ?_ (v := .string (bstr D0)) (hy := by first | (go_simp; done) | (go_simp; rfl)) (hX := by exact set_13_7); clear hM; intro wx hM) | ((with_reducible refine at_store ?_); refine ls hM ?_ (v := .slice A' Y.length c') (hX := by exact set_13_8); clear hM; intro wx hM) | ((first | with_reducible refine at_load ?_ | ((with_reducible refine at_load_g ?_ ?_); (· rfl))); first | refine lc hM ?_ | refine ll hM ?_ | refine lp hM ?_) | ((with_reducible refine at_store ?_); first | (refine ls hM ?_; clear hM; intro wx hM) | (refine lw hM ?_; clear hM; intro wx hM) | (refine lt hM ?_; clear hM; intro wx hM)) | ((with_reducible refine at_alloc ?_); refine lz hM ?_; clear hM; intro gx wx hM) | ((with_reducible refine at_box ?_); refine lb hM ?_; clear hM; intro gx wx hM))
          obtain ⟨V0, rfl⟩ : ∃ V, V = Y := ⟨_, rfl⟩
          obtain ⟨A0, rfl⟩ : ∃ V, V = A' := ⟨_, rfl⟩
          obtain ⟨q0c, rfl⟩ : ∃ V, V = c' := ⟨_, rfl⟩
          clear hlt hj hkl
          rw [rounds_succ]
          obtain ⟨k, hmk, hkl, e1, e2⟩ := min_cases w1 b1
          go_wp2_with (first | ((first | with_reducible refine at_load ?_ | ((with_reducible refine at_load_g ?_ ?_); (· rfl))); first | refine lc hM ?_ | refine ll hM ?_ | refine lp hM ?_) | ((with_reducible refine at_store ?_); first | (refine ls hM ?_; clear hM; intro wx hM) | (refine lw hM ?_; clear hM; intro wx hM) | (refine lt hM ?_; clear hM; intro wx hM)) | ((with_reducible refine at_alloc ?_); refine lz hM ?_; clear hM; intro gx wx hM) | ((with_reducible refine at_box ?_); refine lb hM ?_; clear hM; intro gx wx hM))
          refine Go.Bul.wp_region_class (Mem _ w _ _) (by kernel_rfl) (by kernel_rfl) hM.drew ?_
          repeat ((with_reducible refine wpQuiet_step (fun K hK => ?_)); (first | ((first | ((with_reducible refine quiet_some ?_ ?_); (· rfl)) | ((with_reducible refine quiet_wanted ?_ ?_); (· rfl))); apply Exists.intro; refine ⟨fun w' hM' => ?_, ?_⟩; (· first | (go_simp; rfl) | exact qc hM' | fail | exact ql hM' | exact qp hM')) | ((with_reducible refine quiet_unwanted ?_ ?_); (· rfl))); go_simp; (with_reducible refine hK _ ?_); clear hK K)
          refine wpQuiet_nil ?_
          intro wx hM
          go_wp2_with (first | (refine lbBn hM ?_; clear hM; intro gw ww hM) | ((with_reducible refine at_append ?_); refine laB (b_src (HY1.out _ hM.below)) hM hl1 ?_; clear hM; intro Aq Nq cq wx hN hM) | ((with_reducible refine at_store ?_); refine ls hM ?_ (hy := by (go_simp; rfl)); clear hM; intro wx hM) | ((first | with_reducible refine at_load ?_ | ((with_reducible refine at_load_g ?_ ?_); (· rfl))); first | refine lc hM ?_ | refine ll hM ?_ | refine lp hM ?_) | ((with_reducible refine at_store ?_); first | (refine ls hM ?_; clear hM; intro wx hM) | (refine lw hM ?_; clear hM; intro wx hM) | (refine lt hM ?_; clear hM; intro wx hM)) | ((with_reducible refine at_alloc ?_); refine lz hM ?_; clear hM; intro gx wx hM) | ((with_reducible refine at_box ?_); refine lb hM ?_; clear hM; intro gx wx hM))
          obtain rfl : Nq = y1.length := by rw [hN.out]; simp
          have M0 := Lib.hid hM
          clear hM hN
          go_loopw [6, 5] (fun i u wr => ∃ (j : Nat) (Y : BW) (A' : Option Addr) (c' : Nat), j ≤ k ∧ i = .int .i64 (j : Nat) ∧ u = .slice A' Y.length c' ∧ Hid (Y = y1 ++ (w1.take j).map fun b => (b, at')) ∧ Mem [] w [⟨g2, 66, 13, zeroL⟩, ⟨g1, 66, 13, refCs ⟨r, d, p, ws, now, true, ses, D0, V0, a0, w1, y1, a1⟩ ⟨A, c, A0, q0c, Y1, c1⟩⟩] [byT (.slice A' Y.length c') Y, byT (.slice A0 V0.length q0c) V0] wr) (fun i _ _ => k - (intOf i).toNat)
          case atStart => exact ⟨0, y1, Aq, cq, by omega, rfl, rfl, Lib.hid (by simp), by simpa using M0.out⟩
          case round =>
            obtain ⟨j, Y, A', c', hj, rfl, rfl, HY, hM⟩ := hrel
            by_cases hlt : j < k
            · have q0 : (0 : Int) ≤ (j : Int) := Int.natCast_nonneg _
              have q1 : (j : Int) < (k : Int) := by omega
              have q2 : j < (bstr w1).size := by rw [bstr_size]; omega
              have q3 : (j : Int) < ((bstr w1).size : Int) := by omega
              obtain ⟨bj, hbj'⟩ : ∃ bj, w1[j] = bj := ⟨_, rfl⟩
              have hbj : ((bstr w1)[j]'q2).toNat = bj := by rw [← hbj']; exact bstr_get w1 b17 (by omega) q2
              have HY2 : Hid (Y ++ [(bj, at')] = y1 ++ (w1.take (j + 1)).map fun b => (b, at')) := Lib.hid (by rw [HY.out, ← hbj', take_snoc _ (show j < w1.length by omega), List.append_assoc])
              have hYl : Y.length + [(bj, at')].length ≤ 1000000000 := by rw [HY.out]; simp; omega
              clear hbj'
              go_wp2_with (first | ((with_reducible refine at_store ?_); refine ls hM ?_ (hy := by (go_simp; rfl)); clear hM; intro wx hM) | ((first | with_reducible refine at_load ?_ | ((with_reducible refine at_load_g ?_ ?_); (· rfl))); first | refine lc hM ?_ | refine ll hM ?_ | refine lp hM ?_) | ((with_reducible refine at_store ?_); first | (refine ls hM ?_; clear hM; intro wx hM) | (refine lw hM ?_; clear hM; intro wx hM) | (refine lt hM ?_; clear hM; intro wx hM)) | ((with_reducible refine at_alloc ?_); refine lz hM ?_; clear hM; intro gx wx hM) | ((with_reducible refine at_box ?_); refine lb hM ?_; clear hM; intro gx wx hM))
              refine wp_region_allB hM 17 (by kernel_rfl) ?_
              clear hM
              intro wd hM
              have HM0 := Lib.hid hM
              have hS := Below.refl wd.heap.size wd
              refine wpAllT_takes [0, 1, 2, 3, 4, 5, 6, 7, 8, 9, 10, 11, 12, 13, 14, 15] (by kernel_rfl) (fun _ _ _ _ _ h => h) hS (by kernel_rfl) ?_
              simp only [pickOps, List.filterMap_cons, List.filterMap_nil, List.getElem?_cons_zero, List.getElem?_cons_succ]
              repeat ((with_reducible apply wpHeld_step); (· rfl); (· (intro wq hSw; first | (go_simp; rfl) | (have hM' := HM0.out.step hSw; first | exact yields_load (C := fun _ => True) (qc hM') rfl | exact yields_load (C := fun _ => True) (ql hM') rfl | exact yields_load (C := fun _ => True) (qp hM') rfl | fail))); intro K hK; go_simp; (with_reducible refine hK _ ?_); clear hK K)
              refine wpHeld_nil ?_
              refine wpAllT_one 16 rfl (by kernel_rfl) ?_
              refine lbB (b := (bj : Nat)) (t := at') (Mem.start [] wd) ?_
              intro gw ww hF
              refine wpList_then ⟨.inr hF.below, ?_⟩
              replace hM := hM.frame hF
              clear hF hS HM0
              go_simp
              refine wpAllT_one 17 rfl (by kernel_rfl) ?_
              refine laB (b_src (c := 1) (breads_one hM (List.Mem.head _))) hM hYl ?_
              clear hM
              intro A2 N2 c2 wx hN hM
              refine wpList_then ⟨.inl (by kernel_rfl), wpAllT_drop (by kernel_rfl) ?_⟩
              go_simp
              refine wpAll_seq [18] (by kernel_rfl) ?_
              simp only [pickOps, List.filterMap_cons, List.filterMap_nil, List.getElem?_cons_zero, List.getElem?_cons_succ]
              repeat (first | ((fail); go_simp) | ((with_reducible apply wpList_pure); (· rfl); (· (go_simp; rfl)); go_simp))
              refine wpList_end ?_
              go_wp2_with (first | ((first | with_reducible refine at_load ?_ | ((with_reducible refine at_load_g ?_ ?_); (· rfl))); first | refine lc hM ?_ | refine ll hM ?_ | refine lp hM ?_) | ((with_reducible refine at_store ?_); first | (refine ls hM ?_; clear hM; intro wx hM) | (refine lw hM ?_; clear hM; intro wx hM) | (refine lt hM ?_; clear hM; intro wx hM)) | ((with_reducible refine at_alloc ?_); refine lz hM ?_; clear hM; intro gx wx hM) | ((with_reducible refine at_box ?_); refine lb hM ?_; clear hM; intro gx wx hM))
              obtain rfl : N2 = (Y ++ [(bj, at')]).length := hN.out
              exact ⟨⟨j + 1, Y ++ [(bj, at')], A2, c2, by omega, by go_num, rfl, HY2, hM.subL (List.sublist_cons_self _ _)⟩, by simp [intOf]; omega⟩
            · obtain rfl : j = k := by omega
              obtain ⟨D1, hD1⟩ : ∃ D, w1.drop j = D := ⟨_, rfl⟩
              have HDS1 : (bstr w1).extract j (bstr w1).size = bstr D1 := by rw [← hD1]; exact bstr_drop w1
              have HDD1 := Lib.hid (show D1 = sendW r w1 by rw [← hD1, e2]; rfl)
              have HVV1 := Lib.hid (show Y = sendY r at' w1 y1 by rw [HY.out, e1]; rfl)
              have q0 : (0 : Int) ≤ (j : Int) := Int.natCast_nonneg _
              have q2 : j ≤ (bstr w1).size := by rw [bstr_size]; omega
              have q3 : (j : Int) ≤ ((bstr w1).size : Int) := by omega
              clear e1 e2 hD1 HY hmk
              go_wp2_with (first | ((with_reducible refine at_store ?_); refine ls hM ?_ (v := .string (bstr D1)) (hy := by first | (go_simp; done) | (go_simp; rfl)) (hX := by exact set_13_10); clear hM; intro wx hM) | ((with_reducible refine at_store ?_); refine ls hM ?_ (v := .slice A' Y.length c') (hX := by exact set_13_11); clear hM; intro wx hM) | ((first | with_reducible refine at_load ?_ | ((with_reducible refine at_load_g ?_ ?_); (· rfl))); first | refine lc hM ?_ | refine ll hM ?_ | refine lp hM ?_) | ((with_reducible refine at_store ?_); first | (refine ls hM ?_; clear hM; intro wx hM) | (refine lw hM ?_; clear hM; intro wx hM) | (refine lt hM ?_; clear hM; intro wx hM)) | ((with_reducible refine at_alloc ?_); refine lz hM ?_; clear hM; intro gx wx hM) | ((with_reducible refine at_box ?_); refine lb hM ?_; clear hM; intro gx wx hM))
              rw [rounds_succ]
              go_wp2_with fail
              go_meet
              case rel =>
                have e : sentR ⟨r, d, p, ws, now, true, ses, w0, y0, a0, w1, y1, a1⟩ = ⟨r, d, p, ws, now, true, ses, D0, V0, a0, D1, Y, a1⟩ := by
                  rw [HDD0.out, HVV0.out, HDD1.out, HVV1.out, ← HAT.out]
                  rfl
                refine ⟨A0, q0c, A', c', [byT (.slice A' Y.length c') Y, byT (.slice A0 V0.length q0c) V0], ?_, ?_⟩
                · rw [e]
                  exact Lib.hid fun w' L R' h => ⟨HWS.out w' h.below, byT_reads (h.thing _ (List.mem_append_right _ (List.Mem.tail _ (List.Mem.head _)))), byT_reads (h.thing _ (List.mem_append_right _ (List.Mem.head _)))⟩
                · rw [e]
                  exact hM
    | false =>
      go_wp2_with fail
      go_meet
      case rel => exact ⟨Y0, c0, Y1, c1, [], Lib.hid fun w' L R' h => HR.out w' h.below, hM⟩
  case rest =>
    clear hM
    obtain ⟨Y0', c0', Y1', c1', R0, HRI, hM⟩ := hcut
    have HU := Lib.hid (rb_sent HB.out)
    have hnow : (sentR ⟨r, d, p, ws, now, up, ses, w0, y0, a0, w1, y1, a1⟩).now = now := by unfold sentR; split <;> rfl
    have hws : (sentR ⟨r, d, p, ws, now, up, ses, w0, y0, a0, w1, y1, a1⟩).ws = ws := by unfold sentR; split <;> rfl
    generalize hT : sentR ⟨r, d, p, ws, now, up, ses, w0, y0, a0, w1, y1, a1⟩ = T at HRI hM HU hnow hws ⊢
    have hmi : M = turnR (comeR T) := by rw [← HMI.out]; unfold minuteR; rw [hT]
    clear HMI
    have HMI := Lib.hid hmi
    have HSUB : Hid (∀ (T' : RL) (B : Option Addr) (e0 : Nat) (C : Option Addr) (e1 : Nat), T'.ws = ws → (∀ g ∈ aFp B T'.y0.length, w.heap.size ≤ g) → (∀ g ∈ aFp C T'.y1.length, w.heap.size ≤ g) → RSub w.heap.size ⟨r, d, p, ws, now, up, ses, w0, y0, a0, w1, y1, a1⟩ ⟨A, c, Y0, c0, Y1, c1⟩ T' ⟨A, c, B, e0, C, e1⟩) := Lib.hid fun T' B e0 C e1 e h0 h1 => RSub.new (v := ⟨A, c, Y0, c0, Y1, c1⟩) e h0 h1
    obtain ⟨Told, hold⟩ : ∃ x, x = (⟨r, d, p, ws, now, up, ses, w0, y0, a0, w1, y1, a1⟩ : RL) := ⟨_, rfl⟩
    obtain ⟨vold, hold2⟩ : ∃ x, x = (⟨A, c, Y0, c0, Y1, c1⟩ : RV) := ⟨_, rfl⟩
    rw [← hold, ← hold2] at HSUB
    have HOLD := Lib.hid (And.intro hold hold2)
    clear hmi hT HB HR HY0 HY1 HWS b1 b2 b3 b4 b5 b6 b7 b8 b9 b10 b11 b12 b13 b14 b15 b16 b17 hl0 hl1 hold hold2
    obtain ⟨r, d, p, ws', now', up, ses, w0, y0, a0, w1, y1, a1⟩ := T
    simp only at hnow hws
    subst hnow hws
    obtain ⟨k1, k2, k3, k4, k5, k6, k7, k8, k9⟩ := HU.out
    simp only at k1 k2 k3 k4 k5 k6 k7 k8 k9
    clear HU
    obtain ⟨n, hn'⟩ : ∃ n, now' + 1 = n := ⟨_, rfl⟩
    have hmi : M = turnR ⟨r, d, p, ws', n, up, ses, w0, leftR n y0, a0 ++ dueR n y1, w1, leftR n y1, a1 ++ dueR n y0⟩ := by rw [HMI.out, ← hn']; rfl
    clear HMI
    have HMI := Lib.hid hmi
    clear hmi
    have wr1 : IntKind.i64.wrap 1 = 1 := by kernel_rfl
    have wr0 : IntKind.i64.wrap 0 = 0 := by kernel_rfl
    go_wp2_with (first | ((with_reducible refine at_store ?_); refine ls hM ?_ (v := .int .i64 n) (hy := by first | rfl | (go_simp; done)) (hX := by exact set_13_4); clear hM; intro wx hM) | ((with_reducible refine at_store ?_); refine ls hM ?_ (hy := by (go_simp; rfl)); clear hM; intro wx hM) | ((first | with_reducible refine at_load ?_ | ((with_reducible refine at_load_g ?_ ?_); (· rfl))); first | refine lc hM ?_ | refine ll hM ?_ | refine lp hM ?_) | ((with_reducible refine at_store ?_); first | (refine ls hM ?_; clear hM; intro wx hM) | (refine lw hM ?_; clear hM; intro wx hM) | (refine lt hM ?_; clear hM; intro wx hM)) | ((with_reducible refine at_alloc ?_); refine lz hM ?_; clear hM; intro gx wx hM) | ((with_reducible refine at_box ?_); refine lb hM ?_; clear hM; intro gx wx hM))
    refine wp_loop_rounds 3 ?_
    rw [rounds_succ]
    go_wp2_with (first | ((first | with_reducible refine at_load ?_ | ((with_reducible refine at_load_g ?_ ?_); (· rfl))); first | refine lc hM ?_ | refine ll hM ?_ | refine lp hM ?_) | ((with_reducible refine at_store ?_); first | (refine ls hM ?_; clear hM; intro wx hM) | (refine lw hM ?_; clear hM; intro wx hM) | (refine lt hM ?_; clear hM; intro wx hM)) | ((with_reducible refine at_alloc ?_); refine lz hM ?_; clear hM; intro gx wx hM) | ((with_reducible refine at_box ?_); refine lb hM ?_; clear hM; intro gx wx hM))
    have hM0 := hM.newThing (becomes_bzero none (KeptBut.refl _ _))
    have M0 := Lib.hid hM0
    clear hM hM0
    go_loopw [9, 8] (fun i u wr => ∃ (j : Nat) (X : BW) (Z : List Nat) (A' : Option Addr) (c' : Nat), j ≤ y0.length ∧ i = .int .i64 (j : Nat) ∧ u = .slice A' X.length c' ∧ Hid (X = leftR n (y0.take j) ∧ Z = a1 ++ dueR n (y0.take j)) ∧ Mem [] w [⟨g2, 66, 13, zeroL⟩, ⟨g1, 66, 13, refCs ⟨r, d, p, ws', n, up, ses, w0, y0, a0, w1, y1, Z⟩ ⟨A, c, Y0', c0', Y1', c1'⟩⟩] (byT (.slice A' X.length c') X :: R0) wr) (fun i _ _ => y0.length - (intOf i).toNat)
    case atStart => exact ⟨0, [], a1, none, 0, by omega, rfl, rfl, Lib.hid ⟨rfl, by simp [dueR]⟩, M0.out⟩
    case round =>
      obtain ⟨j, X, Z, A', c', hj, rfl, rfl, HXZ, hM⟩ := hrel
      by_cases hlt : j < y0.length
      · have q0 : (0 : Int) ≤ (j : Int) := Int.natCast_nonneg _
        have q1 : (j : Int) < (y0.length : Int) := by omega
        obtain ⟨gy, oy, rfl, hgy, hcell⟩ := reads_b (HRI.out _ _ [_] hM).y0 j hlt
        obtain ⟨⟨bj, tj⟩, hbj⟩ : ∃ x, y0[j] = x := ⟨_, rfl⟩
        rw [hbj] at hcell
        have HX := Lib.hid hcell
        clear hcell
        by_cases hd : tj ≤ n
        · have t1 : decide (tj ≤ n) = true := decide_eq_true hd
          go_upto_region 22 with (first | ((with_reducible refine at_load ?_); refine lr HX.out ?_) | ((with_reducible refine at_store ?_); refine ls hM ?_ (hy := by (go_simp; rfl)); clear hM; intro wx hM) | ((first | with_reducible refine at_load ?_ | ((with_reducible refine at_load_g ?_ ?_); (· rfl))); first | refine lc hM ?_ | refine ll hM ?_ | refine lp hM ?_) | ((with_reducible refine at_store ?_); first | (refine ls hM ?_; clear hM; intro wx hM) | (refine lw hM ?_; clear hM; intro wx hM) | (refine lt hM ?_; clear hM; intro wx hM)) | ((with_reducible refine at_alloc ?_); refine lz hM ?_; clear hM; intro gx wx hM) | ((with_reducible refine at_box ?_); refine lb hM ?_; clear hM; intro gx wx hM))
          have HX2 : Hid (X = leftR n (y0.take (j + 1)) ∧ Z ++ [bj] = a1 ++ dueR n (y0.take (j + 1))) := Lib.hid (by
            obtain ⟨h1, h2⟩ := HXZ.out
            rw [List.take_succ_eq_append_getElem hlt, hbj, left_due hd, due_due hd, ← List.append_assoc, ← h2]
            exact ⟨h1, rfl⟩)
          have hZl : Z.length ≤ 400000000 := by have := (HXZ.out).2; have h2 := due_len n (y0.take j); rw [this, List.length_append]; rw [List.length_take] at h2; omega
          have c4 : ¬ (9223372036854775807 < (bstr Z).size + (bstr [bj]).size) := by rw [bstr_size, bstr_size]; simp; omega
          have e9 : bstr Z ++ bstr [bj] = bstr (Z ++ [bj]) := bstr_app _ _
          have E9 := Lib.hid e9
          clear hd hbj e9 hZl
          refine wp_region_allB hM 14 (by kernel_rfl) ?_
          clear hM
          intro wd hM
          have HM0 := Lib.hid hM
          have hS := Below.refl wd.heap.size wd
          refine wpAllT_takes [0, 1, 2, 3, 4, 5, 6, 7, 11] (by kernel_rfl) (fun _ _ _ _ _ h => h) hS (by kernel_rfl) ?_
          simp only [pickOps, List.filterMap_cons, List.filterMap_nil, List.getElem?_cons_zero, List.getElem?_cons_succ]
          repeat ((with_reducible apply wpHeld_step); (· rfl); (· (intro wq hSw; first | (go_simp; rfl) | (have hM' := HM0.out.step hSw; first | exact yields_load (C := fun _ => True) (qc hM') rfl | exact yields_load (C := fun _ => True) (ql hM') rfl | exact yields_load (C := fun _ => True) (qp hM') rfl | fail))); intro K hK; go_simp; (with_reducible refine hK _ ?_); clear hK K)
          refine wpHeld_nil ?_
          refine wpAllT_one 8 rfl (by kernel_rfl) ?_
          refine lbU (b := bj) (Mem.start [] wd) ?_
          intro gw ww hF
          refine wpList_then ⟨.inr hF.below, ?_⟩
          have hstr := ureads_str (hF) (List.Mem.head _)
          have hS := hF.below
          replace hM := hM.frame hF
          clear hF
          go_simp
          refine wpAllT_one 9 rfl (by kernel_rfl) ?_
          (with_reducible apply wpList_pure)
          · rfl
          · (go_simp; rfl)
          go_simp
          refine wpList_then ⟨.inr hS, ?_⟩
          refine wpAllT_takes [10, 12, 13] (by kernel_rfl) (fun _ _ _ _ _ h => h) hS (by kernel_rfl) ?_
          simp only [pickOps, List.filterMap_cons, List.filterMap_nil, List.getElem?_cons_zero, List.getElem?_cons_succ]
          repeat ((with_reducible apply wpHeld_step); (· rfl); (· (intro wq hSw; first | (go_simp; rfl) | (have hM' := HM0.out.step hSw; first | exact yields_load (C := fun _ => True) (qc hM') rfl | exact yields_load (C := fun _ => True) (ql hM') rfl | exact yields_load (C := fun _ => True) (qp hM') rfl | fail))); intro K hK; go_simp; (with_reducible refine hK _ ?_); clear hK K)
          refine wpHeld_nil ?_
          refine wpAllT_one 14 rfl (by kernel_rfl) ?_
          refine ls hM ?_ (v := .string (bstr (Z ++ [bj]))) (hy := by (go_simp; exact E9.out)) (hX := by exact set_13_12)
          clear hM hS HM0 hstr
          intro wx hM
          refine wpList_then ⟨.inl (by kernel_rfl), wpAllT_drop (by kernel_rfl) (wpAll_done (by kernel_rfl) ?_)⟩
          go_wp2_with (first | ((first | with_reducible refine at_load ?_ | ((with_reducible refine at_load_g ?_ ?_); (· rfl))); first | refine lc hM ?_ | refine ll hM ?_ | refine lp hM ?_) | ((with_reducible refine at_store ?_); first | (refine ls hM ?_; clear hM; intro wx hM) | (refine lw hM ?_; clear hM; intro wx hM) | (refine lt hM ?_; clear hM; intro wx hM)) | ((with_reducible refine at_alloc ?_); refine lz hM ?_; clear hM; intro gx wx hM) | ((with_reducible refine at_box ?_); refine lb hM ?_; clear hM; intro gx wx hM))
          exact ⟨⟨j + 1, X, Z ++ [bj], A', c', by omega, by go_num, rfl, HX2, hM.subL (List.Sublist.cons _ (List.Sublist.cons _ (List.Sublist.refl _)))⟩, by simp [intOf]; omega⟩
        · have t1 : decide (tj ≤ n) = false := decide_eq_false hd
          have HX2 : Hid (X ++ [(bj, tj)] = leftR n (y0.take (j + 1)) ∧ Z = a1 ++ dueR n (y0.take (j + 1))) := Lib.hid (by
            obtain ⟨h1, h2⟩ := HXZ.out
            rw [List.take_succ_eq_append_getElem hlt, hbj, left_late hd, due_late hd, ← h1]
            exact ⟨rfl, h2⟩)
          have hXl : X.length + [(bj, tj)].length ≤ 1000000000 := by have := (HXZ.out).1; have h2 := left_len n (y0.take j); rw [← this] at h2; rw [List.length_take] at h2; simp; omega
          clear hd hbj
          go_wp2_with (first | ((with_reducible refine at_load ?_); refine lr HX.out ?_) | (refine lbB (b := (bj : Nat)) (t := tj) hM ?_; clear hM; intro gw ww hM) | ((with_reducible refine at_append ?_); refine laB (b_src (c := 1) (breads_one hM (List.Mem.head _))) hM hXl ?_; clear hM; intro A2 N2 c2 wx hN hM) | ((with_reducible refine at_store ?_); refine ls hM ?_ (hy := by (go_simp; rfl)); clear hM; intro wx hM) | ((first | with_reducible refine at_load ?_ | ((with_reducible refine at_load_g ?_ ?_); (· rfl))); first | refine lc hM ?_ | refine ll hM ?_ | refine lp hM ?_) | ((with_reducible refine at_store ?_); first | (refine ls hM ?_; clear hM; intro wx hM) | (refine lw hM ?_; clear hM; intro wx hM) | (refine lt hM ?_; clear hM; intro wx hM)) | ((with_reducible refine at_alloc ?_); refine lz hM ?_; clear hM; intro gx wx hM) | ((with_reducible refine at_box ?_); refine lb hM ?_; clear hM; intro gx wx hM))
          obtain rfl : N2 = (X ++ [(bj, tj)]).length := hN.out
          exact ⟨⟨j + 1, X ++ [(bj, tj)], Z, A2, c2, by omega, by go_num, rfl, HX2, hM.subL (List.Sublist.cons _ (List.Sublist.cons _ (List.Sublist.refl _)))⟩, by simp [intOf]; omega⟩
      · obtain rfl : j = y0.length := by omega
        have HN0 : Hid (X = leftR n y0 ∧ Z = a1 ++ dueR n y0) := Lib.hid (by have h := HXZ.out; rwa [List.take_length] at h)
        have hl0 : X.length ≤ 200000000 := by rw [HN0.out.1]; have := left_len n y0; omega
        clear hlt hj HXZ
        go_wp2_with (first | ((with_reducible refine at_store ?_); refine ls hM ?_ (v := .slice A' X.length c') (hX := by exact set_13_8); clear hM; intro wx hM) | ((first | with_reducible refine at_load ?_ | ((with_reducible refine at_load_g ?_ ?_); (· rfl))); first | refine lc hM ?_ | refine ll hM ?_ | refine lp hM ?_) | ((with_reducible refine at_store ?_); first | (refine ls hM ?_; clear hM; intro wx hM) | (refine lw hM ?_; clear hM; intro wx hM) | (refine lt hM ?_; clear hM; intro wx hM)) | ((with_reducible refine at_alloc ?_); refine lz hM ?_; clear hM; intro gx wx hM) | ((with_reducible refine at_box ?_); refine lb hM ?_; clear hM; intro gx wx hM))
        rw [rounds_succ]
        go_wp2_with (first | ((first | with_reducible refine at_load ?_ | ((with_reducible refine at_load_g ?_ ?_); (· rfl))); first | refine lc hM ?_ | refine ll hM ?_ | refine lp hM ?_) | ((with_reducible refine at_store ?_); first | (refine ls hM ?_; clear hM; intro wx hM) | (refine lw hM ?_; clear hM; intro wx hM) | (refine lt hM ?_; clear hM; intro wx hM)) | ((with_reducible refine at_alloc ?_); refine lz hM ?_; clear hM; intro gx wx hM) | ((with_reducible refine at_box ?_); refine lb hM ?_; clear hM; intro gx wx hM))
        obtain ⟨X0, rfl⟩ : ∃ V, V = X := ⟨_, rfl⟩
        obtain ⟨Z0, rfl⟩ : ∃ V, V = Z := ⟨_, rfl⟩
        obtain ⟨B0, rfl⟩ : ∃ V, V = A' := ⟨_, rfl⟩
        obtain ⟨d0, rfl⟩ : ∃ V, V = c' := ⟨_, rfl⟩
        clear M0
        have hM0 := hM.newThing (becomes_bzero none (KeptBut.refl _ _))
        have M0 := Lib.hid hM0
        clear hM hM0
        go_loopw [9, 8] (fun i u wr => ∃ (j : Nat) (X : BW) (Z : List Nat) (A' : Option Addr) (c' : Nat), j ≤ y1.length ∧ i = .int .i64 (j : Nat) ∧ u = .slice A' X.length c' ∧ Hid (X = leftR n (y1.take j) ∧ Z = a0 ++ dueR n (y1.take j)) ∧ Mem [] w [⟨g2, 66, 13, zeroL⟩, ⟨g1, 66, 13, refCs ⟨r, d, p, ws', n, up, ses, w0, X0, Z, w1, y1, Z0⟩ ⟨A, c, B0, d0, Y1', c1'⟩⟩] (byT (.slice A' X.length c') X :: byT (.slice B0 X0.length d0) X0 :: R0) wr) (fun i _ _ => y1.length - (intOf i).toNat)
        case atStart => exact ⟨0, [], a0, none, 0, by omega, rfl, rfl, Lib.hid ⟨rfl, by simp [dueR]⟩, M0.out⟩
        case round =>
          obtain ⟨j, X, Z, A', c', hj, rfl, rfl, HXZ, hM⟩ := hrel
          by_cases hlt : j < y1.length
          · have q0 : (0 : Int) ≤ (j : Int) := Int.natCast_nonneg _
            have q1 : (j : Int) < (y1.length : Int) := by omega
            obtain ⟨gy, oy, rfl, hgy, hcell⟩ := reads_b (HRI.out _ _ [_, _] hM).y1 j hlt
            obtain ⟨⟨bj, tj⟩, hbj⟩ : ∃ x, y1[j] = x := ⟨_, rfl⟩
            rw [hbj] at hcell
            have HX := Lib.hid hcell
            clear hcell
            by_cases hd : tj ≤ n
            · have t1 : decide (tj ≤ n) = true := decide_eq_true hd
              go_upto_region 22 with (first | ((with_reducible refine at_load ?_); refine lr HX.out ?_) | ((with_reducible refine at_store ?_); refine ls hM ?_ (hy := by (go_simp; rfl)); clear hM; intro wx hM) | ((first | with_reducible refine at_load ?_ | ((with_reducible refine at_load_g ?_ ?_); (· rfl))); first | refine lc hM ?_ | refine ll hM ?_ | refine lp hM ?_) | ((with_reducible refine at_store ?_); first | (refine ls hM ?_; clear hM; intro wx hM) | (refine lw hM ?_; clear hM; intro wx hM) | (refine lt hM ?_; clear hM; intro wx hM)) | ((with_reducible refine at_alloc ?_); refine lz hM ?_; clear hM; intro gx wx hM) | ((with_reducible refine at_box ?_); refine lb hM ?_; clear hM; intro gx wx hM))
              have HX2 : Hid (X = leftR n (y1.take (j + 1)) ∧ Z ++ [bj] = a0 ++ dueR n (y1.take (j + 1))) := Lib.hid (by
                obtain ⟨h1, h2⟩ := HXZ.out
                rw [List.take_succ_eq_append_getElem hlt, hbj, left_due hd, due_due hd, ← List.append_assoc, ← h2]
                exact ⟨h1, rfl⟩)
              have hZl : Z.length ≤ 400000000 := by have := (HXZ.out).2; have h2 := due_len n (y1.take j); rw [this, List.length_append]; rw [List.length_take] at h2; omega
              have c4 : ¬ (9223372036854775807 < (bstr Z).size + (bstr [bj]).size) := by rw [bstr_size, bstr_size]; simp; omega
              have e9 : bstr Z ++ bstr [bj] = bstr (Z ++ [bj]) := bstr_app _ _
              have E9 := Lib.hid e9
              clear hd hbj e9 hZl
              refine wp_region_allB hM 14 (by kernel_rfl) ?_
              clear hM
              intro wd hM
              have HM0 := Lib.hid hM
              have hS := Below.refl wd.heap.size wd
              refine wpAllT_takes [0, 1, 2, 3, 4, 5, 6, 7, 11] (by kernel_rfl) (fun _ _ _ _ _ h => h) hS (by kernel_rfl) ?_
              simp only [pickOps, List.filterMap_cons, List.filterMap_nil, List.getElem?_cons_zero, List.getElem?_cons_succ]
              repeat ((with_reducible apply wpHeld_step); (· rfl); (· (intro wq hSw; first | (go_simp; rfl) | (have hM' := HM0.out.step hSw; first | exact yields_load (C := fun _ => True) (qc hM') rfl | exact yields_load (C := fun _ => True) (ql hM') rfl | exact yields_load (C := fun _ => True) (qp hM') rfl | fail))); intro K hK; go_simp; (with_reducible refine hK _ ?_); clear hK K)
              refine wpHeld_nil ?_
              refine wpAllT_one 8 rfl (by kernel_rfl) ?_
              refine lbU (b := bj) (Mem.start [] wd) ?_
              intro gw ww hF
              refine wpList_then ⟨.inr hF.below, ?_⟩
              have hstr := ureads_str (hF) (List.Mem.head _)
              have hS := hF.below
              replace hM := hM.frame hF
              clear hF
              go_simp
              refine wpAllT_one 9 rfl (by kernel_rfl) ?_
              (with_reducible apply wpList_pure)
              · rfl
              · (go_simp; rfl)
              go_simp
              refine wpList_then ⟨.inr hS, ?_⟩
              refine wpAllT_takes [10, 12, 13] (by kernel_rfl) (fun _ _ _ _ _ h => h) hS (by kernel_rfl) ?_
              simp only [pickOps, List.filterMap_cons, List.filterMap_nil, List.getElem?_cons_zero, List.getElem?_cons_succ]
              repeat ((with_reducible apply wpHeld_step); (· rfl); (· (intro wq hSw; first | (go_simp; rfl) | (have hM' := HM0.out.step hSw; first | exact yields_load (C := fun _ => True) (qc hM') rfl | exact yields_load (C := fun _ => True) (ql hM') rfl | exact yields_load (C := fun _ => True) (qp hM') rfl | fail))); intro K hK; go_simp; (with_reducible refine hK _ ?_); clear hK K)
              refine wpHeld_nil ?_
              refine wpAllT_one 14 rfl (by kernel_rfl) ?_
              refine ls hM ?_ (v := .string (bstr (Z ++ [bj]))) (hy := by (go_simp; exact E9.out)) (hX := by exact set_13_9)
              clear hM hS HM0 hstr
              intro wx hM
              refine wpList_then ⟨.inl (by kernel_rfl), wpAllT_drop (by kernel_rfl) (wpAll_done (by kernel_rfl) ?_)⟩
              go_wp2_with (first | ((first | with_reducible refine at_load ?_ | ((with_reducible refine at_load_g ?_ ?_); (· rfl))); first | refine lc hM ?_ | refine ll hM ?_ | refine lp hM ?_) | ((with_reducible refine at_store ?_); first | (refine ls hM ?_; clear hM; intro wx hM) | (refine lw hM ?_; clear hM; intro wx hM) | (refine lt hM ?_; clear hM; intro wx hM)) | ((with_reducible refine at_alloc ?_); refine lz hM ?_; clear hM; intro gx wx hM) | ((with_reducible refine at_box ?_); refine lb hM ?_; clear hM; intro gx wx hM))
              exact ⟨⟨j + 1, X, Z ++ [bj], A', c', by omega, by go_num, rfl, HX2, hM.subL (List.Sublist.cons _ (List.Sublist.cons _ (List.Sublist.refl _)))⟩, by simp [intOf]; omega⟩
            · have t1 : decide (tj ≤ n) = false := decide_eq_false hd
              have HX2 : Hid (X ++ [(bj, tj)] = leftR n (y1.take (j + 1)) ∧ Z = a0 ++ dueR n (y1.take (j + 1))) := Lib.hid (by
                obtain ⟨h1, h2⟩ := HXZ.out
                rw [List.take_succ_eq_append_getElem hlt, hbj, left_late hd, due_late hd, ← h1]
                exact ⟨rfl, h2⟩)
              have hXl : X.length + [(bj, tj)].length ≤ 1000000000 := by have := (HXZ.out).1; have h2 := left_len n (y1.take j); rw [← this] at h2; rw [List.length_take] at h2; simp; omega
              clear hd hbj
              go_wp2_with (first | ((with_reducible refine at_load ?_); refine lr HX.out ?_) | (refine lbB (b := (bj : Nat)) (t := tj) hM ?_; clear hM; intro gw ww hM) | ((with_reducible refine at_append ?_); refine laB (b_src (c := 1) (breads_one hM (List.Mem.head _))) hM hXl ?_; clear hM; intro A2 N2 c2 wx hN hM) | ((with_reducible refine at_store ?_); refine ls hM ?_ (hy := by (go_simp; rfl)); clear hM; intro wx hM) | ((first | with_reducible refine at_load ?_ | ((with_reducible refine at_load_g ?_ ?_); (· rfl))); first | refine lc hM ?_ | refine ll hM ?_ | refine lp hM ?_) | ((with_reducible refine at_store ?_); first | (refine ls hM ?_; clear hM; intro wx hM) | (refine lw hM ?_; clear hM; intro wx hM) | (refine lt hM ?_; clear hM; intro wx hM)) | ((with_reducible refine at_alloc ?_); refine lz hM ?_; clear hM; intro gx wx hM) | ((with_reducible refine at_box ?_); refine lb hM ?_; clear hM; intro gx wx hM))
              obtain rfl : N2 = (X ++ [(bj, tj)]).length := hN.out
              exact ⟨⟨j + 1, X ++ [(bj, tj)], Z, A2, c2, by omega, by go_num, rfl, HX2, hM.subL (List.Sublist.cons _ (List.Sublist.cons _ (List.Sublist.refl _)))⟩, by simp [intOf]; omega⟩
          · obtain rfl : j = y1.length := by omega
            have HN1 : Hid (X = leftR n y1 ∧ Z = a0 ++ dueR n y1) := Lib.hid (by have h := HXZ.out; rwa [List.take_length] at h)
            have hl1 : X.length ≤ 200000000 := by rw [HN1.out.1]; have := left_len n y1; omega
            clear hlt hj HXZ
            go_wp2_with (first | ((with_reducible refine at_store ?_); refine ls hM ?_ (v := .slice A' X.length c') (hX := by exact set_13_11); clear hM; intro wx hM) | ((first | with_reducible refine at_load ?_ | ((with_reducible refine at_load_g ?_ ?_); (· rfl))); first | refine lc hM ?_ | refine ll hM ?_ | refine lp hM ?_) | ((with_reducible refine at_store ?_); first | (refine ls hM ?_; clear hM; intro wx hM) | (refine lw hM ?_; clear hM; intro wx hM) | (refine lt hM ?_; clear hM; intro wx hM)) | ((with_reducible refine at_alloc ?_); refine lz hM ?_; clear hM; intro gx wx hM) | ((with_reducible refine at_box ?_); refine lb hM ?_; clear hM; intro gx wx hM))
            rw [rounds_succ]
            have hmi : M = turnR ⟨r, d, p, ws', n, up, ses, w0, X0, Z, w1, X, Z0⟩ := by rw [HMI.out, HN0.out.1, HN0.out.2, HN1.out.1, HN1.out.2]
            have HW := Lib.hid (fun w' L R' (h : Mem [] w L (R' ++ R0) w') => (HRI.out w' L R' h).ws)
            have HCN := Lib.hid (fun (wz : World) (h : Wins wz A ws'.length ws') => rconn_any r d p n A ws'.length c ws' wz (by omega) (by omega) h)
            have HD := Lib.hid (fun wz => rdown_any ⟨r, d, p, ws', n, up, ses, w0, X0, Z, w1, X, Z0⟩ ⟨A, c, B0, d0, A', c'⟩ wz)
            have wr2 : IntKind.i64.wrap (ses + 1) = ses + 1 := IntWalk.i64_in _ ⟨by omega, by omega⟩
            have hfin : ∀ (T' : RL) (L : List Ent) (w' : World), T'.ws = ws' → T'.y0 = X0 → T'.y1 = X → Mem [] w L (byT (.slice A' X.length c') X :: byT (.slice B0 X0.length d0) X0 :: R0) w' → RIn w' T' ⟨A, c, B0, d0, A', c'⟩ ∧ RSub w.heap.size Told vold T' ⟨A, c, B0, d0, A', c'⟩ := by
              intro T' L w' t1 t2 t3 h
              refine ⟨⟨?_, ?_, ?_⟩, HSUB.out _ _ _ _ _ t1 ?_ ?_⟩
              · rw [t1]; exact HW.out _ _ [_, _] h
              · rw [t2]; exact byT_reads (h.thing _ (List.Mem.tail _ (List.Mem.head _)))
              · rw [t3]; exact byT_reads (h.thing _ (List.Mem.head _))
              · rw [t2]; exact byT_new h (List.Mem.tail _ (List.Mem.head _))
              · rw [t3]; exact byT_new h (List.Mem.head _)
            have HFIN := Lib.hid hfin
            have hfin2 : ∀ (T' : RL) (L : List Ent) (w' : World), T'.ws = ws' → T'.y0 = [] → T'.y1 = [] → Mem [] w L (byT (.slice A' X.length c') X :: byT (.slice B0 X0.length d0) X0 :: R0) w' → RIn w' T' ⟨A, c, none, 0, none, 0⟩ ∧ RSub w.heap.size Told vold T' ⟨A, c, none, 0, none, 0⟩ := by
              intro T' L w' t1 t2 t3 h
              refine ⟨⟨?_, ?_, ?_⟩, HSUB.out _ _ _ _ _ t1 ?_ ?_⟩
              · rw [t1]; exact HW.out _ _ [_, _] h
              · rw [t2]; exact Reads.nil _ _ _
              · rw [t3]; exact Reads.nil _ _ _
              · rw [t2, List.length_nil, aFp_zero]; intro g hg; cases hg
              · rw [t3, List.length_nil, aFp_zero]; intro g hg; cases hg
            have HFIN2 := Lib.hid hfin2
            clear hfin hfin2 HRI HSUB HN0 HN1 HMI M0 hl0 hl1 k1 k2 k3 k4 k5 k6 k7 k8 k9 hn'
            unfold turnR at hmi
            cases up with
            | true =>
              cases hb : connected r d p ws' n with
              | true =>
                rw [hb] at HCN
                rw [if_pos rfl, if_pos hb] at hmi
                subst hmi
                clear hb HD
                go_wp2_with (first | ((with_reducible refine (HCN.out _ (HW.out _ _ [_, _] hM)).mono ?_); rintro e w1' ⟨rfl, hb⟩; replace hM := hM.step hb; clear hb) | ((first | with_reducible refine at_load ?_ | ((with_reducible refine at_load_g ?_ ?_); (· rfl))); first | refine lc hM ?_ | refine ll hM ?_ | refine lp hM ?_) | ((with_reducible refine at_store ?_); first | (refine ls hM ?_; clear hM; intro wx hM) | (refine lw hM ?_; clear hM; intro wx hM) | (refine lt hM ?_; clear hM; intro wx hM)) | ((with_reducible refine at_alloc ?_); refine lz hM ?_; clear hM; intro gx wx hM) | ((with_reducible refine at_box ?_); refine lb hM ?_; clear hM; intro gx wx hM))
                obtain ⟨f1, f2⟩ := HFIN.out ⟨r, d, p, ws', n, true, ses, w0, X0, Z, w1, X, Z0⟩ _ _ rfl rfl rfl hM
                obtain ⟨ht, hv⟩ := HOLD.out
                clear HOLD
                subst ht hv
                exact bodyPost_ret (results_mem_cell hM rfl (by rfl) (by repeat (first | exact List.Mem.head _ | apply List.Mem.tail)) (by first | exact row_cfg | exact row_win | exact row_line | exact row_end | exact row_ends | exact row_pkt | exact row_C | exact row_W | exact row_L | exact row_End | exact row_Ends | exact row_B | exact row_op | exact row_str2 | exact row_b3)) rfl ⟨_, rfl, hM.below, f1, f2⟩
              | false =>
                rw [hb] at HCN
                rw [if_pos rfl, if_neg (by simp [hb])] at hmi
                subst hmi
                clear hb
                go_wp2_with (first | ((with_reducible refine (HCN.out _ (HW.out _ _ [_, _] hM)).mono ?_); rintro e w1' ⟨rfl, hb⟩; replace hM := hM.step hb; clear hb) | ((with_reducible refine (HD.out _).mono ?_); rintro e w1' ⟨rfl, hb⟩; replace hM := hM.step hb; clear hb) | ((first | with_reducible refine at_load ?_ | ((with_reducible refine at_load_g ?_ ?_); (· rfl))); first | refine lc hM ?_ | refine ll hM ?_ | refine lp hM ?_) | ((with_reducible refine at_store ?_); first | (refine ls hM ?_; clear hM; intro wx hM) | (refine lw hM ?_; clear hM; intro wx hM) | (refine lt hM ?_; clear hM; intro wx hM)) | ((with_reducible refine at_alloc ?_); refine lz hM ?_; clear hM; intro gx wx hM) | ((with_reducible refine at_box ?_); refine lb hM ?_; clear hM; intro gx wx hM))
                obtain ⟨f1, f2⟩ := HFIN2.out (downR ⟨r, d, p, ws', n, true, ses, w0, X0, Z, w1, X, Z0⟩) _ _ rfl rfl rfl hM
                obtain ⟨ht, hv⟩ := HOLD.out
                clear HOLD
                subst ht hv
                exact bodyPost_ret (results_mem_cell hM rfl (by rfl) (by repeat (first | exact List.Mem.head _ | apply List.Mem.tail)) (by first | exact row_cfg | exact row_win | exact row_line | exact row_end | exact row_ends | exact row_pkt | exact row_C | exact row_W | exact row_L | exact row_End | exact row_Ends | exact row_B | exact row_op | exact row_str2 | exact row_b3)) rfl ⟨_, rfl, hM.below, f1, f2⟩
            | false =>
              cases hb : connected r d p ws' n with
              | true =>
                rw [hb] at HCN
                rw [if_neg (by simp), if_pos hb] at hmi
                subst hmi
                clear hb HD
                go_wp2_with (first | ((with_reducible refine (HCN.out _ (HW.out _ _ [_, _] hM)).mono ?_); rintro e w1' ⟨rfl, hb⟩; replace hM := hM.step hb; clear hb) | ((with_reducible refine at_store ?_); first | (refine ls hM ?_ (v := .bool true) (hX := by exact set_13_5); clear hM; intro wx hM) | (refine ls hM ?_ (v := .int .i64 (ses + 1)) (hX := by exact set_13_6); clear hM; intro wx hM) | (refine ls hM ?_ (v := .string ⟨#[]⟩) (hX := by first | exact set_13_9 | exact set_13_12); clear hM; intro wx hM)) | ((first | with_reducible refine at_load ?_ | ((with_reducible refine at_load_g ?_ ?_); (· rfl))); first | refine lc hM ?_ | refine ll hM ?_ | refine lp hM ?_) | ((with_reducible refine at_store ?_); first | (refine ls hM ?_; clear hM; intro wx hM) | (refine lw hM ?_; clear hM; intro wx hM) | (refine lt hM ?_; clear hM; intro wx hM)) | ((with_reducible refine at_alloc ?_); refine lz hM ?_; clear hM; intro gx wx hM) | ((with_reducible refine at_box ?_); refine lb hM ?_; clear hM; intro gx wx hM))
                obtain ⟨f1, f2⟩ := HFIN.out (upR ⟨r, d, p, ws', n, false, ses, w0, X0, Z, w1, X, Z0⟩) _ _ rfl rfl rfl hM
                obtain ⟨ht, hv⟩ := HOLD.out
                clear HOLD
                subst ht hv
                exact bodyPost_ret (results_mem_cell hM rfl (by rfl) (by repeat (first | exact List.Mem.head _ | apply List.Mem.tail)) (by first | exact row_cfg | exact row_win | exact row_line | exact row_end | exact row_ends | exact row_pkt | exact row_C | exact row_W | exact row_L | exact row_End | exact row_Ends | exact row_B | exact row_op | exact row_str2 | exact row_b3)) rfl ⟨_, rfl, hM.below, f1, f2⟩
              | false =>
                rw [hb] at HCN
                rw [if_neg (by simp), if_neg (by simp [hb])] at hmi
                subst hmi
                clear hb HD
                go_wp2_with (first | ((with_reducible refine (HCN.out _ (HW.out _ _ [_, _] hM)).mono ?_); rintro e w1' ⟨rfl, hb⟩; replace hM := hM.step hb; clear hb) | ((first | with_reducible refine at_load ?_ | ((with_reducible refine at_load_g ?_ ?_); (· rfl))); first | refine lc hM ?_ | refine ll hM ?_ | refine lp hM ?_) | ((with_reducible refine at_store ?_); first | (refine ls hM ?_; clear hM; intro wx hM) | (refine lw hM ?_; clear hM; intro wx hM) | (refine lt hM ?_; clear hM; intro wx hM)) | ((with_reducible refine at_alloc ?_); refine lz hM ?_; clear hM; intro gx wx hM) | ((with_reducible refine at_box ?_); refine lb hM ?_; clear hM; intro gx wx hM))
                obtain ⟨f1, f2⟩ := HFIN.out ⟨r, d, p, ws', n, false, ses, w0, X0, Z, w1, X, Z0⟩ _ _ rfl rfl rfl hM
                obtain ⟨ht, hv⟩ := HOLD.out
                clear HOLD
                subst ht hv
                exact bodyPost_ret (results_mem_cell hM rfl (by rfl) (by repeat (first | exact List.Mem.head _ | apply List.Mem.tail)) (by first | exact row_cfg | exact row_win | exact row_line | exact row_end | exact row_ends | exact row_pkt | exact row_C | exact row_W | exact row_L | exact row_End | exact row_Ends | exact row_B | exact row_op | exact row_str2 | exact row_b3)) rfl ⟨_, rfl, hM.below, f1, f2⟩
end Go.Proofs.Ytenflgbaibjeoaa
